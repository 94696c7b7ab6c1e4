/- Sick, the program's; the reference's small functions -/
import Derived.Test.YtiemfmkaofakoaaD
namespace Go.Proofs.Ytiemfmkaofakoaa
open Go.RowKit

def pR (reads : Int) (s : Sup) : Bool := decide (inn reads < inn s.reads)
def ltR (a b : Sup) : Bool := decide (inn b.reads < inn a.reads)
def sickR (l : Nat → Sup) (n : Nat) (reads : Int) : Int := if 0 ≤ firstSick l 0 n then firstSick l 0 n else sel (pR reads) l ltR (-1) 0 n

set_option maxHeartbeats 2000000 in
theorem sick_any (a : Option Addr) (n cap : Nat) (l : Nat → Sup) (reads : Int) (w : World) (hl : SupsAt w a n l) (hm : n ≤ maxLen) :
    Calls Try.prog 13 #[.slice a n cap, .int .i64 reads] w fun e w' => e = .returned (.int .i64 (sickR l n reads)) ∧ Keeps Nil w w' := by
  have hm0 := Lib.hid hm
  unfold maxLen at hm
  have hl' := Lib.hid hl
  clear hl
  unfold sickR
  by_cases h1 : 0 ≤ firstSick l 0 n
  · rw [if_pos h1]
    go_enter Try.func13, Try.ntmps13
    go_wp2_with fail
    refine (indexSick_any a n cap l _ hl'.out hm0.out).mono ?_
    rintro e w1 ⟨rfl, k1⟩
    have k1' := Lib.hid k1
    clear k1
    go_wp2_with fail
    go_ret
    exact ⟨rfl, k1'.out⟩
  · rw [if_neg h1]
    go_enter Try.func13, Try.ntmps13
    go_wp2_with fail
    refine (indexSick_any a n cap l _ hl'.out hm0.out).mono ?_
    rintro e w1 ⟨rfl, k1⟩
    have k1' := Lib.hid k1
    clear k1
    go_wp2_with fail
    go_loopw [6, 17] (fun at_ i wr => ∃ (k : Nat) (j : Int), k ≤ n ∧ i = .int .i64 k ∧ at_ = .int .i64 j ∧ -1 ≤ j ∧ j < k ∧ Keeps Nil w wr ∧ Hid (sel (pR reads) l ltR (-1) 0 n = sel (pR reads) l ltR j k (n - k))) (fun _ i _ => n - (intOf i).toNat)
    case atStart => exact ⟨0, -1, Nat.zero_le _, rfl, rfl, by omega, by omega, k1'.out, rfl⟩
    case round =>
      obtain ⟨k, j, hk, rfl, rfl, hj0, hj1, hkp, hrel⟩ := hrel
      have hkp' := Lib.hid hkp
      clear hkp
      by_cases hlt : k < n
      · obtain ⟨b, off, rfl, c0, c1, c2, c3, c4, c5, c6⟩ := (hl'.out.keeps hkp'.out) k hlt
        by_cases hp : inn reads < inn (l k).reads
        · have d0 : decide (inn reads < inn (l k).reads) = true := decide_eq_true hp
          by_cases hneg : j < 0
          · have d1 : decide (j < 0) = true := decide_eq_true hneg
            have hrel2 := Lib.hid (hrel.out.trans (sel_take (lt := ltR) hlt (by unfold pR; exact d0) (.inl hneg)))
            clear hrel
            go_wp2_with (go_at_call 18; refine (within_any _ _).mono ?_; rintro e w' ⟨rfl, rfl⟩)
            go_roundw
            case rel => exact ⟨k + 1, k, by omega, by go_num, rfl, by omega, by omega, hkp'.out.alloc _, hrel2⟩
            case measure => simp [intOf]; omega
          · have d1 : decide (j < 0) = false := decide_eq_false hneg
            obtain ⟨jn, rfl⟩ := Int.eq_ofNat_of_zero_le (show 0 ≤ j by omega)
            have hjn : jn < n := by omega
            have hjl : (jn : Int) < n := by omega
            have hj0' : (0 : Int) ≤ jn := by omega
            obtain ⟨b', off', hbe, hs2⟩ := (hl'.out.keeps hkp'.out) jn hjn
            simp only [Option.some.injEq, Addr.mk.injEq] at hbe
            obtain ⟨rfl, rfl, _⟩ := hbe
            have e5 := hs2.c5
            have hbl := lt_of_cell e5
            clear hs2 hneg
            by_cases hr : inn (l jn).reads < inn (l k).reads
            · have d2 : decide (inn (l jn).reads < inn (l k).reads) = true := decide_eq_true hr
              have hrel2 := Lib.hid (hrel.out.trans (sel_take (lt := ltR) hlt (by unfold pR; exact d0) (.inr (by unfold ltR; simpa using hr))))
              clear hrel
              go_wp2_with (go_at_call 18; refine (within_any _ _).mono ?_; rintro e w' ⟨rfl, rfl⟩)
              go_roundw
              case rel => exact ⟨k + 1, k, by omega, by go_num, rfl, by omega, by omega, hkp'.out.alloc _, hrel2⟩
              case measure => simp [intOf]; omega
            · have d2 : decide (inn (l jn).reads < inn (l k).reads) = false := decide_eq_false hr
              have hrel2 := Lib.hid (hrel.out.trans (sel_leave (lt := ltR) hlt hj0' (by unfold ltR; simpa using hr)))
              clear hrel
              go_wp2_with (go_at_call 18; refine (within_any _ _).mono ?_; rintro e w' ⟨rfl, rfl⟩)
              go_roundw
              case rel => exact ⟨k + 1, jn, by omega, by go_num, rfl, by omega, by omega, hkp'.out.alloc _, hrel2⟩
              case measure => simp [intOf]; omega
        · have d0 : decide (inn reads < inn (l k).reads) = false := decide_eq_false hp
          have hrel2 := Lib.hid (hrel.out.trans (sel_skip (lt := ltR) hlt (by unfold pR; exact d0)))
          clear hrel
          go_wp2_with (go_at_call 18; refine (within_any _ _).mono ?_; rintro e w' ⟨rfl, rfl⟩)
          go_roundw
          case rel => exact ⟨k + 1, j, by omega, by go_num, rfl, by omega, by omega, hkp'.out.alloc _, hrel2⟩
          case measure => simp [intOf]; omega
      · have hrel2 := Lib.hid (hrel.out.trans (sel_end (by omega)))
        clear hrel
        go_wp2_with fail
        go_ret
        rw [hrel2.out]
        exact ⟨rfl, hkp'.out⟩

/-! ### the reference -/
set_option maxHeartbeats 400000 in
theorem in_any (n : Int) (w : World) : Calls Try.prog 22 #[.int .i64 n] w fun e w' => e = .returned (.int .i64 (inn n)) ∧ w' = w := by
  unfold inn
  by_cases h1 : n < 0
  · rw [if_pos h1]
    go_enter Try.func22, Try.ntmps22
    go_wp2
    go_ret
    exact ⟨rfl, rfl⟩
  · rw [if_neg h1]
    by_cases h2 : n > 1048576
    · rw [if_pos h2]
      go_enter Try.func22, Try.ntmps22
      go_wp2
      go_ret
      exact ⟨rfl, rfl⟩
    · rw [if_neg h2]
      go_enter Try.func22, Try.ntmps22
      go_wp2
      go_ret
      exact ⟨rfl, rfl⟩

set_option maxHeartbeats 400000 in
theorem rmay_any (s : Sup) (w : World) : Calls Try.prog 21 #[supV s] w fun e w' => e = .returned (.bool (mayG s)) ∧ Keeps Nil w w' := by
  unfold mayG
  by_cases h1 : 0 ≤ s.live
  · go_enter Try.func21, Try.ntmps21
    go_wp2
    go_ret
    exact ⟨by simp [h1], (Keeps.refl _ _).alloc _⟩
  · go_enter Try.func21, Try.ntmps21
    go_wp2
    go_ret
    exact ⟨by rw [decide_eq_false (show ¬ 0 ≤ s.live by omega)]; rfl, (Keeps.refl _ _).alloc _⟩
end Go.Proofs.Ytiemfmkaofakoaa
