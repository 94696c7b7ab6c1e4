/- the reference's Cold -/
import Derived.Test.YtiemfmkaofakoaaE
namespace Go.Proofs.Ytiemfmkaofakoaa
open Go.RowKit

theorem ltB_less {a b : Sup} (h : inn a.erases < inn b.erases) : ltB coldc a b = true := by
  unfold ltB lex coldc
  have e : cmpI (inn a.erases) (inn b.erases) = -1 := by unfold cmpI; rw [if_pos h]
  rw [e]; rfl
theorem ltB_more {a b : Sup} (h : inn b.erases < inn a.erases) : ltB coldc a b = false := by
  unfold ltB lex coldc
  have e : cmpI (inn a.erases) (inn b.erases) = 1 := by unfold cmpI; rw [if_neg (by omega), if_pos h]
  rw [e]; rfl
theorem ltB_id {a b : Sup} (h : inn a.erases = inn b.erases) : ltB coldc a b = decide (a.id < b.id) := by
  unfold ltB lex coldc
  have e : cmpI (inn a.erases) (inn b.erases) = 0 := by unfold cmpI; rw [if_neg (by omega), if_neg (by omega)]
  rw [e, if_pos rfl]
  unfold cmpI
  by_cases e2 : a.id < b.id
  · rw [if_pos e2, decide_eq_true e2]; rfl
  · rw [if_neg e2, decide_eq_false e2]; split <;> rfl

set_option maxHeartbeats 4000000 in
theorem rcold_any (a : Option Addr) (n cap : Nat) (l : Nat → Sup) (worn spread : Int) (w : World) (hl : SupsAt w a n l) (hm : n ≤ maxLen) :
    Calls Try.prog 12 #[.slice a n cap, .int .i64 worn, .int .i64 spread] w fun e w' => e = .returned (.int .i64 (coldR l n worn spread)) ∧ Keeps Nil w w' := by
  unfold maxLen at hm
  have hl' := Lib.hid hl
  have i2 := inn_rng spread
  have i3 := inn_rng worn
  clear hl
  unfold coldR
  by_cases hsp : spread < 0
  · rw [if_pos hsp]
    go_enter Try.func12, Try.ntmps12
    go_wp2_with fail
    by_cases hn : n = 0
    · subst hn
      refine wp_loop_rounds 1 ?_
      rw [rounds_succ]
      go_wp2_with fail
      go_ret
      exact ⟨rfl, Keeps.refl _ _⟩
    · have d0 : decide ((0 : Int) < n) = true := decide_eq_true (by omega)
      refine wp_loop_rounds 1 ?_
      rw [rounds_succ]
      go_wp2_with fail
      go_ret
      exact ⟨rfl, Keeps.refl _ _⟩
  · rw [if_neg hsp]
    have hsp0 : 0 ≤ spread := by omega
    go_enter Try.func12, Try.ntmps12
    go_wp2_with fail
    go_loopw [7, 8] (fun at_ i wr => ∃ (k : Nat) (j : Int), k ≤ n ∧ i = .int .i64 k ∧ at_ = .int .i64 j ∧ -1 ≤ j ∧ j < k ∧ Keeps Nil w wr ∧ Hid (sel (mayC worn spread) l (ltB coldc) (-1) 0 n = sel (mayC worn spread) l (ltB coldc) j k (n - k))) (fun _ i _ => n - (intOf i).toNat)
    case atStart => exact ⟨0, -1, Nat.zero_le _, rfl, rfl, by omega, by omega, Keeps.refl _ _, rfl⟩
    case round =>
      obtain ⟨k, j, hk, rfl, rfl, hj0, hj1, hkp, hrel⟩ := hrel
      have hkp' := Lib.hid hkp
      clear hkp
      by_cases hlt : k < n
      · have hltI : (k : Int) < n := by omega
        obtain ⟨b, off, rfl, c0, c1, c2, c3, c4, c5, c6⟩ := (hl'.out.keeps hkp'.out) k hlt
        have i1 := inn_rng (l k).erases
        by_cases hp : inn (l k).erases + inn spread < inn worn
        · have hp1 : mayC worn spread (l k) = true := by unfold mayC; exact decide_eq_true hp
          have hp' := Lib.hid hp1
          clear hp1
          by_cases hneg : j < 0
          · have d1 : decide (j < 0) = true := decide_eq_true hneg
            have hrel2 := Lib.hid (hrel.out.trans (sel_take (lt := ltB coldc) hlt hp'.out (.inl hneg)))
            clear hrel
            go_wp2_with (go_at_call 22; refine (in_any _ _).mono ?_; rintro e w' ⟨rfl, rfl⟩)
            go_quiet (fail)
            go_wp2_with fail
            go_roundw
            case rel => exact ⟨k + 1, k, by omega, by go_num, rfl, by omega, by omega, hkp'.out.drewN _, hrel2⟩
            case measure => simp [intOf]; omega
          · have d1 : decide (j < 0) = false := decide_eq_false hneg
            obtain ⟨jn, rfl⟩ := Int.eq_ofNat_of_zero_le (show 0 ≤ j by omega)
            have hjn : jn < n := by omega
            have hjl : (jn : Int) < n := by omega
            have hj0' : (0 : Int) ≤ jn := by omega
            obtain ⟨b', off', hbe, hs2⟩ := (hl'.out.keeps hkp'.out) jn hjn
            simp only [Option.some.injEq, Addr.mk.injEq] at hbe
            obtain ⟨rfl, rfl, _⟩ := hbe
            have e4 := hs2.c4
            have e0 := hs2.c0
            clear hs2 hneg c1 c2 c3 c5 c6
            have hcase : (inn (l k).erases < inn (l jn).erases) ∨ (inn (l k).erases = inn (l jn).erases ∧ (l k).id < (l jn).id) ∨ (inn (l k).erases = inn (l jn).erases ∧ ¬ (l k).id < (l jn).id) ∨ (inn (l jn).erases < inn (l k).erases) := by omega
            rcases hcase with h | ⟨h, h2⟩ | ⟨h, h2⟩ | h
            · have hb := ltB_less h
              have q1 : decide (inn (l k).erases < inn (l jn).erases) = true := decide_eq_true h
              have hrel2 := Lib.hid (hrel.out.trans (sel_take hlt hp'.out (.inr (by simpa using hb))))
              clear hrel hb
              go_wp2_with (go_at_call 22; refine (in_any _ _).mono ?_; rintro e w' ⟨rfl, rfl⟩)
              go_quiet ((go_at_call 22; exact Calls.quiet_of_same (in_any _ _)))
              go_wp2_with fail
              go_roundw
              case rel => exact ⟨k + 1, k, by omega, by go_num, rfl, by omega, by omega, hkp'.out.drewN _, hrel2⟩
              case measure => simp [intOf]; omega
            · have hb := ltB_id h
              rw [decide_eq_true h2] at hb
              have q1 : decide (inn (l k).erases < inn (l jn).erases) = false := decide_eq_false (by omega)
              have q2 : (inn (l k).erases == inn (l jn).erases) = true := by simpa using h
              have q3 : decide ((l k).id < (l jn).id) = true := decide_eq_true h2
              have hrel2 := Lib.hid (hrel.out.trans (sel_take hlt hp'.out (.inr (by simpa using hb))))
              clear hrel hb h
              go_wp2_with (go_at_call 22; refine (in_any _ _).mono ?_; rintro e w' ⟨rfl, rfl⟩)
              go_quiet ((go_at_call 22; exact Calls.quiet_of_same (in_any _ _)))
              go_wp2_with fail
              go_roundw
              case rel => exact ⟨k + 1, k, by omega, by go_num, rfl, by omega, by omega, hkp'.out.drewN _, hrel2⟩
              case measure => simp [intOf]; omega
            · have hb := ltB_id h
              rw [decide_eq_false h2] at hb
              have q1 : decide (inn (l k).erases < inn (l jn).erases) = false := decide_eq_false (by omega)
              have q2 : (inn (l k).erases == inn (l jn).erases) = true := by simpa using h
              have q3 : decide ((l k).id < (l jn).id) = false := decide_eq_false h2
              have hrel2 := Lib.hid (hrel.out.trans (sel_leave hlt hj0' (by simpa using hb)))
              clear hrel hb h
              go_wp2_with (go_at_call 22; refine (in_any _ _).mono ?_; rintro e w' ⟨rfl, rfl⟩)
              go_quiet ((go_at_call 22; exact Calls.quiet_of_same (in_any _ _)))
              go_wp2_with fail
              go_roundw
              case rel => exact ⟨k + 1, jn, by omega, by go_num, rfl, by omega, by omega, hkp'.out.drewN _, hrel2⟩
              case measure => simp [intOf]; omega
            · have hb := ltB_more h
              have q1 : decide (inn (l k).erases < inn (l jn).erases) = false := decide_eq_false (by omega)
              have q2 : (inn (l k).erases == inn (l jn).erases) = false := by simp; omega
              have hrel2 := Lib.hid (hrel.out.trans (sel_leave hlt hj0' (by simpa using hb)))
              clear hrel hb
              go_wp2_with (go_at_call 22; refine (in_any _ _).mono ?_; rintro e w' ⟨rfl, rfl⟩)
              go_quiet ((go_at_call 22; exact Calls.quiet_of_same (in_any _ _)))
              go_wp2_with fail
              go_roundw
              case rel => exact ⟨k + 1, jn, by omega, by go_num, rfl, by omega, by omega, hkp'.out.drewN _, hrel2⟩
              case measure => simp [intOf]; omega
        · have hp1 : mayC worn spread (l k) = false := by unfold mayC; exact decide_eq_false hp
          have hrel2 := Lib.hid (hrel.out.trans (sel_skip (lt := ltB coldc) hlt hp1))
          clear hrel hp1
          go_wp2_with (go_at_call 22; refine (in_any _ _).mono ?_; rintro e w' ⟨rfl, rfl⟩)
          go_roundw
          case rel => exact ⟨k + 1, j, by omega, by go_num, rfl, by omega, by omega, hkp'.out, hrel2⟩
          case measure => simp [intOf]; omega
      · have hrel2 := Lib.hid (hrel.out.trans (sel_end (by omega)))
        clear hrel
        go_wp2_with fail
        go_ret
        rw [hrel2.out]
        exact ⟨rfl, hkp'.out⟩
end Go.Proofs.Ytiemfmkaofakoaa
