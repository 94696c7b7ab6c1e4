/- the reference's Sick -/
import Derived.Test.YtiemfmkaofakoaaE2
namespace Go.Proofs.Ytiemfmkaofakoaa
open Go.RowKit

theorem firstSick_nn {l : Nat → Sup} : ∀ (f k j : Nat), k ≤ j → j < k + f → (l j).sick = true → 0 ≤ firstSick l k f
  | 0, k, j, h1, h2, _ => by omega
  | f + 1, k, j, h1, h2, h3 => by
    rw [firstSick]
    split
    · omega
    · rename_i hn
      have : k ≠ j := fun e => hn (by rw [e]; exact h3)
      exact firstSick_nn f (k + 1) j (by omega) (by omega) h3

theorem sickR_yes {l : Nat → Sup} {n k : Nat} {reads : Int} (h : firstSick l 0 n = k) : sickR l n reads = k := by unfold sickR; rw [h, if_pos (by omega)]
theorem sickR_no {l : Nat → Sup} {n : Nat} {reads : Int} (h : firstSick l 0 n = -1) : sickR l n reads = sel (pR reads) l ltR (-1) 0 n := by unfold sickR; rw [h, if_neg (by omega)]

set_option maxHeartbeats 4000000 in
theorem rsick_any (a : Option Addr) (n cap : Nat) (l : Nat → Sup) (reads : Int) (w : World) (hl : SupsAt w a n l) (hm : n ≤ maxLen) :
    Calls Try.prog 14 #[.slice a n cap, .int .i64 reads] w fun e w' => e = .returned (.int .i64 (sickR l n reads)) ∧ Keeps Nil w w' := by
  unfold maxLen at hm
  have hl' := Lib.hid hl
  clear hl
  go_enter Try.func14, Try.ntmps14
  go_wp2_with fail
  go_loop [5] (fun i => ∃ k : Nat, k ≤ n ∧ i = .int .i64 k ∧ Hid (firstSick l 0 n = firstSick l k (n - k))) (fun i => n - (intOf i).toNat)
  case atStart => exact ⟨0, Nat.zero_le _, rfl, rfl⟩
  case round =>
    obtain ⟨k, hk, rfl, hrel⟩ := hrel
    by_cases hlt : k < n
    · obtain ⟨b, off, rfl, c0, c1, c2, c3, c4, c5, c6⟩ := hl'.out k hlt
      clear c0 c1 c2 c3 c4 c5
      cases hs : (l k).sick
      · have hrel2 := Lib.hid (hrel.out.trans (firstSick_no hlt hs))
        have hs' := Lib.hid hs
        rw [hs] at c6
        clear hrel hs
        go_wp2_with fail
        go_round
        case rel => exact ⟨k + 1, by omega, by go_num, hrel2⟩
        case measure => simp [intOf]; omega
      · have hrel2 := Lib.hid (sickR_yes (reads := reads) (hrel.out.trans (firstSick_yes hlt hs)))
        have hs' := Lib.hid hs
        rw [hs] at c6
        clear hrel hs
        go_wp2_with fail
        go_ret
        rw [hrel2.out]
        exact ⟨rfl, Keeps.refl _ _⟩
    · have hfs := hrel.out.trans (firstSick_end (by omega))
      have hres := Lib.hid (sickR_no (reads := reads) hfs)
      have hke : n ≤ k := by omega
      clear hrel hfs hlt
      go_wp2_with fail
      go_loopw [6, 7] (fun at_ i wr => ∃ (k : Nat) (j : Int), k ≤ n ∧ i = .int .i64 k ∧ at_ = .int .i64 j ∧ -1 ≤ j ∧ j < k ∧ Keeps Nil w wr ∧ Hid (sel (pR reads) l ltR (-1) 0 n = sel (pR reads) l ltR j k (n - k))) (fun _ i _ => n - (intOf i).toNat)
      case atStart => exact ⟨0, -1, Nat.zero_le _, rfl, rfl, by omega, by omega, Keeps.refl _ _, rfl⟩
      case round =>
        obtain ⟨k, j, hk, rfl, rfl, hj0, hj1, hkp, hrel⟩ := hrel
        have hkp' := Lib.hid hkp
        clear hkp
        by_cases hlt : k < n
        · have hltI : (k : Int) < n := by omega
          obtain ⟨b, off, rfl, c0, c1, c2, c3, c4, c5, c6⟩ := (hl'.out.keeps hkp'.out) k hlt
          clear c0 c1 c2 c3 c4 c6
          by_cases hp : inn reads < inn (l k).reads
          · have d0 : decide (inn reads < inn (l k).reads) = true := decide_eq_true hp
            by_cases hneg : j < 0
            · have d1 : decide (j < 0) = true := decide_eq_true hneg
              have hrel2 := Lib.hid (hrel.out.trans (sel_take (lt := ltR) hlt (by unfold pR; exact d0) (.inl hneg)))
              clear hrel
              go_wp2_with fail
              go_quiet ((go_at_call 22; exact Calls.quiet_of_same (in_any _ _)))
              go_wp2_with fail
              go_roundw
              case rel => exact ⟨k + 1, k, by omega, by go_num, rfl, by omega, by omega, hkp'.out.drewN _, hrel2⟩
              case measure => simp [intOf]; omega
            · have d1 : decide (j < 0) = false := decide_eq_false hneg
              obtain ⟨jn, rfl⟩ := Int.eq_ofNat_of_zero_le (show 0 ≤ j by omega)
              have hjn : jn < n := by omega
              have hjl : (jn : Int) < n := by omega
              have hj0' : (0 : Int) ≤ jn := by omega
              obtain ⟨b', off', hbe, hs2⟩ := (hl'.out.keeps hkp'.out) jn hjn
              simp only [Option.some.injEq, Addr.mk.injEq] at hbe
              obtain ⟨rfl, rfl, _⟩ := hbe
              have e5 := hs2.c5
              clear hs2 hneg
              by_cases hr : inn (l jn).reads < inn (l k).reads
              · have d2 : decide (inn (l jn).reads < inn (l k).reads) = true := decide_eq_true hr
                have hrel2 := Lib.hid (hrel.out.trans (sel_take (lt := ltR) hlt (by unfold pR; exact d0) (.inr (by unfold ltR; simpa using hr))))
                clear hrel
                go_wp2_with fail
                go_quiet ((go_at_call 22; exact Calls.quiet_of_same (in_any _ _)))
                go_wp2_with fail
                go_roundw
                case rel => exact ⟨k + 1, k, by omega, by go_num, rfl, by omega, by omega, hkp'.out.drewN _, hrel2⟩
                case measure => simp [intOf]; omega
              · have d2 : decide (inn (l jn).reads < inn (l k).reads) = false := decide_eq_false hr
                have hrel2 := Lib.hid (hrel.out.trans (sel_leave (lt := ltR) hlt hj0' (by unfold ltR; simpa using hr)))
                clear hrel
                go_wp2_with fail
                go_quiet ((go_at_call 22; exact Calls.quiet_of_same (in_any _ _)))
                go_wp2_with fail
                go_roundw
                case rel => exact ⟨k + 1, jn, by omega, by go_num, rfl, by omega, by omega, hkp'.out.drewN _, hrel2⟩
                case measure => simp [intOf]; omega
          · have d0 : decide (inn reads < inn (l k).reads) = false := decide_eq_false hp
            have hrel2 := Lib.hid (hrel.out.trans (sel_skip (lt := ltR) hlt (by unfold pR; exact d0)))
            clear hrel
            go_wp2_with fail
            go_quiet ((go_at_call 22; exact Calls.quiet_of_same (in_any _ _)))
            go_wp2_with fail
            go_roundw
            case rel => exact ⟨k + 1, j, by omega, by go_num, rfl, by omega, by omega, hkp'.out.drewN _, hrel2⟩
            case measure => simp [intOf]; omega
        · have hrel2 := Lib.hid (hrel.out.trans (sel_end (by omega)))
          clear hrel
          go_wp2_with fail
          go_ret
          rw [hres.out, hrel2.out]
          exact ⟨rfl, hkp'.out⟩
end Go.Proofs.Ytiemfmkaofakoaa
