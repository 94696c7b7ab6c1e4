/- the reference's Choose, greedy -/
import Derived.Test.YtiemfmkaofakoaaE3
namespace Go.Proofs.Ytiemfmkaofakoaa
open Go.RowKit
attribute [local go_sem ↓] Go.wp_at_zero Go.wp_at_succ

theorem okTo_stuck {p : Sup → Bool} {l : Nat → Sup} {c : Sup → Sup → Int} {i k : Nat} (h : okTo p l c i k = false) : ∀ m, okTo p l c i (k + m) = false
  | 0 => h
  | m + 1 => by rw [← Nat.add_assoc, okTo, okTo_stuck h m]; rfl
theorem okTo_skip {p : Sup → Bool} {l : Nat → Sup} {c : Sup → Sup → Int} {i k : Nat} (h : k = i ∨ p (l k) = false) : okTo p l c i (k + 1) = okTo p l c i k := by
  rw [okTo]
  rcases h with h | h
  · simp [h]
  · simp [h]
theorem okTo_bad {p : Sup → Bool} {l : Nat → Sup} {c : Sup → Sup → Int} {i k : Nat} (h : k ≠ i) (h1 : p (l k) = true) (h2 : badB c l i k = true) : okTo p l c i (k + 1) = false := by
  rw [okTo, h1, h2]; simp [h]
theorem okTo_good {p : Sup → Bool} {l : Nat → Sup} {c : Sup → Sup → Int} {i k : Nat} (h2 : badB c l i k = false) : okTo p l c i (k + 1) = okTo p l c i k := by
  rw [okTo, h2]; simp
theorem okTo_next {p : Sup → Bool} {l : Nat → Sup} {c : Sup → Sup → Int} {i k : Nat} (h0 : okTo p l c i k = true) (h : ¬ k = i) (h1 : p (l k) = true) : okTo p l c i (k + 1) = !badB c l i k := by
  rw [okTo, h0, h1]; simp [h]
theorem refSel_yes {p : Sup → Bool} {l : Nat → Sup} {c : Sup → Sup → Int} {k n : Nat} (hk : k < n) (h : okTo p l c k n = true) : refSel p l c n k (n - k) = k := by
  obtain ⟨f, hf⟩ : ∃ f, n - k = f + 1 := ⟨n - k - 1, by omega⟩
  rw [hf, refSel, if_pos h]
theorem refSel_no {p : Sup → Bool} {l : Nat → Sup} {c : Sup → Sup → Int} {k n : Nat} (hk : k < n) (h : okTo p l c k n = false) : refSel p l c n k (n - k) = refSel p l c n (k + 1) (n - (k + 1)) := by
  obtain ⟨f, hf⟩ : ∃ f, n - k = f + 1 := ⟨n - k - 1, by omega⟩
  have hf' : n - (k + 1) = f := by omega
  rw [hf, hf', refSel, h]; rfl
theorem refSel_end {p : Sup → Bool} {l : Nat → Sup} {c : Sup → Sup → Int} {k n : Nat} (hk : n ≤ k) : refSel p l c n k (n - k) = -1 := by
  have hf' : n - k = 0 := by omega
  rw [hf', refSel]

/-- the six ways of the last test -/
theorem bad_cases (c : Sup → Sup → Int) (l : Nat → Sup) (i k : Nat) :
    (c (l k) (l i) < 0 ∧ badB c l i k = true) ∨ (¬ c (l k) (l i) < 0 ∧ ¬ c (l k) (l i) = 0 ∧ badB c l i k = false) ∨
    (c (l k) (l i) = 0 ∧ (l k).id < (l i).id ∧ badB c l i k = true) ∨ (c (l k) (l i) = 0 ∧ ¬ (l k).id < (l i).id ∧ ¬ (l k).id = (l i).id ∧ badB c l i k = false) ∨
    (c (l k) (l i) = 0 ∧ (l k).id = (l i).id ∧ k < i ∧ badB c l i k = true) ∨ (c (l k) (l i) = 0 ∧ (l k).id = (l i).id ∧ ¬ k < i ∧ badB c l i k = false) := by
  unfold badB
  by_cases h1 : c (l k) (l i) < 0
  · left; exact ⟨h1, by simp [h1]⟩
  · by_cases h2 : c (l k) (l i) = 0
    · right; right
      by_cases h3 : (l k).id < (l i).id
      · left; exact ⟨h2, h3, by simp [h2, h3]⟩
      · right
        by_cases h4 : (l k).id = (l i).id
        · right
          by_cases h5 : k < i
          · left; exact ⟨h2, h4, h5, by simp [h2, h4, h5]⟩
          · right; exact ⟨h2, h4, h5, by simp [h2, h4, h5]⟩
        · left; exact ⟨h2, h3, h4, by simp [h2, h3, h4]⟩
    · right; left; exact ⟨h1, h2, by simp [h1, h2]⟩

theorem greedy_lt (a b : Sup) : greedy a b < 0 ↔ inn a.live < inn b.live := by unfold greedy cmpI; split <;> (try split) <;> omega
theorem greedy_eq (a b : Sup) : greedy a b = 0 ↔ inn a.live = inn b.live := by unfold greedy cmpI; split <;> (try split) <;> omega

set_option maxHeartbeats 8000000 in
set_option maxRecDepth 100000 in
theorem rchoose_g (a : Option Addr) (n cap : Nat) (l : Nat → Sup) (w : World) (hl : SupsAt w a n l) (hm : n ≤ maxLen) :
    Calls Try.prog 10 #[.slice a n cap, .int .i64 1] w fun e w' => e = .returned (.int .i64 (refSel mayG l greedy n 0 n)) ∧ Keeps Nil w w' := by
  unfold maxLen at hm
  have hl' := Lib.hid hl
  clear hl
  go_enter Try.func10, Try.ntmps10
  go_wp2_with fail
  go_loopw [5] (fun i wr => ∃ k : Nat, k ≤ n ∧ i = .int .i64 k ∧ Keeps Nil w wr ∧ Hid (refSel mayG l greedy n 0 n = refSel mayG l greedy n k (n - k))) (fun i _ => n - (intOf i).toNat)
  case atStart => exact ⟨0, Nat.zero_le _, rfl, Keeps.refl _ _, rfl⟩
  case round =>
    obtain ⟨i, hi, rfl, hkp, hrel⟩ := hrel
    have hkp' := Lib.hid hkp
    clear hkp
    by_cases hlt : i < n
    · have hltI : (i : Int) < n := by omega
      obtain ⟨b, off, rfl, c0, c1, c2, c3, c4, c5, c6⟩ := (hl'.out.keeps hkp'.out) i hlt
      go_wp2_with fail
      refine (rmay_any (l i) _).mono ?_
      rintro e w1 ⟨rfl, k1⟩
      have k1' := Lib.hid k1
      clear k1 c0 c1 c2 c3 c4 c5 c6
      go_wp2_with fail
      go_loopw [6, 7] (fun ok q wx => ∃ k : Nat, k ≤ n ∧ q = .int .i64 k ∧ ok = .bool (okTo mayG l greedy i k) ∧ Keeps Nil w wx) (fun _ q _ => n - (intOf q).toNat)
      case atStart => exact ⟨0, Nat.zero_le _, rfl, rfl, hkp'.out.trans k1'.out⟩
      case round =>
        obtain ⟨k, hk, rfl, rfl, hkp2⟩ := hrel
        have hkp2' := Lib.hid hkp2
        clear hkp2
        cases hok : okTo mayG l greedy i k
        · have hrel2 := Lib.hid (hrel.out.trans (refSel_no hlt (by have := okTo_stuck hok (n - k); rwa [show k + (n - k) = n by omega] at this)))
          have hok' := Lib.hid hok
          clear hrel hok
          by_cases hkn : k < n
          · have d1 : decide ((k : Int) < n) = true := decide_eq_true (by omega)
            go_wp2_with fail
            go_roundw
            case rel => exact ⟨i + 1, by omega, by go_num, hkp2'.out, hrel2⟩
            case measure => simp [intOf]; omega
          · have d1 : decide ((k : Int) < n) = false := decide_eq_false (by omega)
            go_wp2_with fail
            go_roundw
            case rel => exact ⟨i + 1, by omega, by go_num, hkp2'.out, hrel2⟩
            case measure => simp [intOf]; omega
        · by_cases hkn : k < n
          · have hknI : (k : Int) < n := by omega
            have hok' := Lib.hid hok
            clear hok
            obtain ⟨b', off', hbe, c0, c1, c2, c3, c4, c5, c6⟩ := (hl'.out.keeps hkp2'.out) k hkn
            simp only [Option.some.injEq, Addr.mk.injEq] at hbe
            obtain ⟨rfl, rfl, _⟩ := hbe
            by_cases hki : k = i
            · have e1 : ((k : Int) == (i : Int)) = true := by simp [hki]
              have hs := Lib.hid ((okTo_skip (p := mayG) (l := l) (c := greedy) (.inl hki)).trans hok'.out)
              clear hki
              go_wp2_with fail
              refine (rmay_any (l k) _).mono ?_
              rintro e w2 ⟨rfl, k2⟩
              have k2' := Lib.hid k2
              clear k2
              go_wp2_with fail
              go_roundw
              case rel => exact ⟨k + 1, by omega, by go_num, by rw [hs.out], hkp2'.out.trans k2'.out⟩
              case measure => simp [intOf]; omega
            · have e1 : ((k : Int) == (i : Int)) = false := by simp; omega
              have hki' := Lib.hid hki
              clear hki
              cases hmy : mayG (l k)
              · have hs := Lib.hid ((okTo_skip (p := mayG) (l := l) (c := greedy) (i := i) (.inr hmy)).trans hok'.out)
                have hmy' := Lib.hid hmy
                clear hmy
                go_wp2_with fail
                refine (rmay_any (l k) _).mono ?_
                rw [hmy'.out]
                rintro e w2 ⟨rfl, k2⟩
                have k2' := Lib.hid k2
                clear k2
                go_wp2_with fail
                go_roundw
                case rel => exact ⟨k + 1, by omega, by go_num, by rw [hs.out], hkp2'.out.trans k2'.out⟩
                case measure => simp [intOf]; omega
              · have hmy' := Lib.hid hmy
                clear hmy
                go_wp2_with fail
                refine (rmay_any (l k) _).mono ?_
                rw [hmy'.out]
                rintro e w2 ⟨rfl, k2⟩
                have k2' := Lib.hid k2
                obtain ⟨b', off', hbe, hsi⟩ := (hl'.out.keeps (hkp2'.out.trans k2)) i hlt
                simp only [Option.some.injEq, Addr.mk.injEq] at hbe
                obtain ⟨rfl, rfl, _⟩ := hbe
                obtain ⟨b', off', hbe, hsk⟩ := (hl'.out.keeps (hkp2'.out.trans k2)) k hkn
                simp only [Option.some.injEq, Addr.mk.injEq] at hbe
                obtain ⟨rfl, rfl, _⟩ := hbe
                have i0 := hsi.c0
                have i1 := hsi.c1
                have j0 := hsk.c0
                have j1 := hsk.c1
                clear k2 c0 c1 c2 c3 c4 c5 c6 hsi hsk
                have hnx := Lib.hid (okTo_next hok'.out hki'.out hmy'.out)
                rcases bad_cases greedy l i k with ⟨h1, hb⟩ | ⟨h1, h2, hb⟩ | ⟨h1, h2, hb⟩ | ⟨h1, h2, h3, hb⟩ | ⟨h1, h2, h3, hb⟩ | ⟨h1, h2, h3, hb⟩
                · have q1 : decide (inn (l k).live < inn (l i).live) = true := decide_eq_true ((greedy_lt _ _).1 h1)
                  have hb' := Lib.hid (hnx.out.trans (congrArg Bool.not hb))
                  clear h1  hb
                  go_wp2_with fail
                  go_quiet ((go_at_call 22; exact Calls.quiet_of_same (in_any _ _)))
                  go_wp2_with fail
                  go_quiet ((go_at_call 22; exact quiet_more (in_any _ _)))
                  go_wp2_with fail
                  go_quiet (fail)
                  go_wp2_with fail
                  go_roundw
                  case rel => exact ⟨k + 1, by omega, by go_num, by rw [hb'.out]; rfl, (hkp2'.out.trans k2'.out).drewN _⟩
                  case measure => simp [intOf]; omega
                · have q1 : decide (inn (l k).live < inn (l i).live) = false := decide_eq_false (fun h => h1 ((greedy_lt _ _).2 h))
                  have q2 : (inn (l k).live == inn (l i).live) = false := by have := fun h => h2 ((greedy_eq (l k) (l i)).2 h); simpa using this
                  have hb' := Lib.hid (hnx.out.trans (congrArg Bool.not hb))
                  clear h1 h2 hb
                  go_wp2_with fail
                  go_quiet ((go_at_call 22; exact Calls.quiet_of_same (in_any _ _)))
                  go_wp2_with fail
                  go_quiet ((go_at_call 22; exact quiet_more (in_any _ _)))
                  go_wp2_with fail
                  go_quiet (fail)
                  go_wp2_with fail
                  go_roundw
                  case rel => exact ⟨k + 1, by omega, by go_num, by rw [hb'.out]; rfl, (hkp2'.out.trans k2'.out).drewN _⟩
                  case measure => simp [intOf]; omega
                · have g := (greedy_eq _ _).1 h1
                  have q1 : decide (inn (l k).live < inn (l i).live) = false := decide_eq_false (by omega)
                  have q2 : (inn (l k).live == inn (l i).live) = true := by simpa using g
                  have q3 : decide ((l k).id < (l i).id) = true := decide_eq_true h2
                  have hb' := Lib.hid (hnx.out.trans (congrArg Bool.not hb))
                  clear h1 h2 g hb
                  go_wp2_with fail
                  go_quiet ((go_at_call 22; exact Calls.quiet_of_same (in_any _ _)))
                  go_wp2_with fail
                  go_quiet ((go_at_call 22; exact quiet_more (in_any _ _)))
                  go_wp2_with fail
                  go_quiet (fail)
                  go_wp2_with fail
                  go_roundw
                  case rel => exact ⟨k + 1, by omega, by go_num, by rw [hb'.out]; rfl, (hkp2'.out.trans k2'.out).drewN _⟩
                  case measure => simp [intOf]; omega
                · have g := (greedy_eq _ _).1 h1
                  have q1 : decide (inn (l k).live < inn (l i).live) = false := decide_eq_false (by omega)
                  have q2 : (inn (l k).live == inn (l i).live) = true := by simpa using g
                  have q3 : decide ((l k).id < (l i).id) = false := decide_eq_false h2
                  have q4 : ((l k).id == (l i).id) = false := by simpa using h3
                  have hb' := Lib.hid (hnx.out.trans (congrArg Bool.not hb))
                  clear h1 h2 h3 g hb
                  go_wp2_with fail
                  go_quiet ((go_at_call 22; exact Calls.quiet_of_same (in_any _ _)))
                  go_wp2_with fail
                  go_quiet ((go_at_call 22; exact quiet_more (in_any _ _)))
                  go_wp2_with fail
                  go_quiet (fail)
                  go_wp2_with fail
                  go_roundw
                  case rel => exact ⟨k + 1, by omega, by go_num, by rw [hb'.out]; rfl, (hkp2'.out.trans k2'.out).drewN _⟩
                  case measure => simp [intOf]; omega
                · have g := (greedy_eq _ _).1 h1
                  have q1 : decide (inn (l k).live < inn (l i).live) = false := decide_eq_false (by omega)
                  have q2 : (inn (l k).live == inn (l i).live) = true := by simpa using g
                  have q3 : decide ((l k).id < (l i).id) = false := decide_eq_false (by omega)
                  have q4 : ((l k).id == (l i).id) = true := by simpa using h2
                  have q5 : decide (k < i) = true := decide_eq_true (by omega)
                  have hb' := Lib.hid (hnx.out.trans (congrArg Bool.not hb))
                  clear h1 h2 h3 g hb
                  go_wp2_with fail
                  go_quiet ((go_at_call 22; exact Calls.quiet_of_same (in_any _ _)))
                  go_wp2_with fail
                  go_quiet ((go_at_call 22; exact quiet_more (in_any _ _)))
                  go_wp2_with fail
                  go_quiet (fail)
                  go_wp2_with fail
                  go_roundw
                  case rel => exact ⟨k + 1, by omega, by go_num, by rw [hb'.out]; rfl, (hkp2'.out.trans k2'.out).drewN _⟩
                  case measure => simp [intOf]; omega
                · have g := (greedy_eq _ _).1 h1
                  have q1 : decide (inn (l k).live < inn (l i).live) = false := decide_eq_false (by omega)
                  have q2 : (inn (l k).live == inn (l i).live) = true := by simpa using g
                  have q3 : decide ((l k).id < (l i).id) = false := decide_eq_false (by omega)
                  have q4 : ((l k).id == (l i).id) = true := by simpa using h2
                  have q5 : decide (k < i) = false := decide_eq_false (by omega)
                  have hb' := Lib.hid (hnx.out.trans (congrArg Bool.not hb))
                  clear h1 h2 h3 g hb
                  go_wp2_with fail
                  go_quiet ((go_at_call 22; exact Calls.quiet_of_same (in_any _ _)))
                  go_wp2_with fail
                  go_quiet ((go_at_call 22; exact quiet_more (in_any _ _)))
                  go_wp2_with fail
                  go_quiet (fail)
                  go_wp2_with fail
                  go_roundw
                  case rel => exact ⟨k + 1, by omega, by go_num, by rw [hb'.out]; rfl, (hkp2'.out.trans k2'.out).drewN _⟩
                  case measure => simp [intOf]; omega
          · have hke : k = n := by omega
            subst hke
            have hrel2 := Lib.hid (hrel.out.trans (refSel_yes hlt hok))
            have hok' := Lib.hid hok
            clear hok hrel
            have d1 : decide ((k : Int) < k) = false := decide_eq_false (by omega)
            go_wp2_with fail
            go_ret
            rw [hrel2.out]
            exact ⟨rfl, hkp2'.out⟩
    · have hrel2 := Lib.hid (hrel.out.trans (refSel_end (by omega)))
      clear hrel
      go_wp2_with fail
      go_ret
      rw [hrel2.out]
      exact ⟨rfl, hkp'.out⟩
end Go.Proofs.Ytiemfmkaofakoaa
