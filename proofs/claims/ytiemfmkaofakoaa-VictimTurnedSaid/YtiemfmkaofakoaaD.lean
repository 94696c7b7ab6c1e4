/- Choose, Cold, Sick: the program's -/
import Derived.Test.YtiemfmkaofakoaaC2
import Derived.Test.YtiemfmkaofakoaaC3
import Derived.Laws.EntriesVeiled
namespace Go.Proofs.Ytiemfmkaofakoaa
open Go.RowKit
attribute [local go_sem ↓] Go.wp_at_zero Go.wp_at_succ

def chooseR (l : Nat → Sup) (n : Nat) (policy : Int) : Int :=
  if policy = 1 then sel mayG l (ltB greedy) (-1) 0 n else if policy = 2 then sel mayG l (ltB benef) (-1) 0 n else -1

set_option maxHeartbeats 400000 in
theorem choose_any (a : Option Addr) (n cap : Nat) (l : Nat → Sup) (policy : Int) (w : World) (hl : SupsAt w a n l) (hm : n ≤ maxLen) :
    Calls Try.prog 9 #[.slice a n cap, .int .i64 policy] w fun e w' => e = .returned (.int .i64 (chooseR l n policy)) ∧ Keeps Nil w w' := by
  have hl' := Lib.hid hl
  have hm' := Lib.hid hm
  clear hl hm
  unfold chooseR
  by_cases h1 : policy = 1
  · rw [if_pos h1]
    subst h1
    have hk := Lib.hid ((Keeps.refl Nil w).alloc (.cells #[.func (.func 15) #[] #[], .func (.func 16) #[] #[]] 35))
    go_enter Try.func9, Try.ntmps9
    go_wp2_with fail
    refine (best_g a n cap l _ (hl'.out.keeps hk.out) hm'.out).mono ?_
    rintro e w1 ⟨rfl, k1⟩
    have k1' := Lib.hid k1
    clear k1
    go_wp2_with fail
    go_ret
    exact ⟨rfl, hk.out.trans k1'.out⟩
  · rw [if_neg h1]
    by_cases h2 : policy = 2
    · rw [if_pos h2]
      subst h2
      have hk := Lib.hid ((Keeps.refl Nil w).alloc (.cells #[.func (.func 15) #[] #[], .func (.func 19) #[] #[]] 35))
      clear h1
      go_enter Try.func9, Try.ntmps9
      go_wp2_with fail
      refine (best_b a n cap l _ (hl'.out.keeps hk.out) hm'.out).mono ?_
      rintro e w1 ⟨rfl, k1⟩
      have k1' := Lib.hid k1
      clear k1
      go_wp2_with fail
      go_ret
      exact ⟨rfl, hk.out.trans k1'.out⟩
    · rw [if_neg h2]
      have e1 : (policy == 1) = false := by simpa using h1
      have e2 : (policy == 2) = false := by simpa using h2
      clear h1 h2
      go_enter Try.func9, Try.ntmps9
      go_wp2_with fail
      go_ret
      exact ⟨rfl, (Keeps.refl Nil w).alloc _⟩

def coldR (l : Nat → Sup) (n : Nat) (worn spread : Int) : Int := if spread < 0 then -1 else sel (mayC worn spread) l (ltB coldc) (-1) 0 n

set_option maxHeartbeats 400000 in
theorem cold_any (a : Option Addr) (n cap : Nat) (l : Nat → Sup) (worn spread : Int) (w : World) (hl : SupsAt w a n l) (hm : n ≤ maxLen) :
    Calls Try.prog 11 #[.slice a n cap, .int .i64 worn, .int .i64 spread] w fun e w' => e = .returned (.int .i64 (coldR l n worn spread)) ∧ Keeps Nil w w' := by
  have hl' := Lib.hid hl
  have hm' := Lib.hid hm
  clear hl hm
  unfold coldR
  have hmf : ∀ (fn : Fn) (first cap : Array Value) (w : World), (Instr.makeFunc fn first cap).run Try.prog w = .ok (.func fn first cap) w := fun _ _ _ _ => rfl
  have hk := Lib.hid (((Keeps.refl Nil w).alloc (.cells #[.int .i64 worn] 3)).alloc (.cells #[.int .i64 spread] 3))
  by_cases h1 : spread < 0
  · rw [if_pos h1]
    go_enter Try.func11, Try.ntmps11
    go_wp2_with fail
    go_ret
    exact ⟨rfl, hk.out⟩
  · rw [if_neg h1]
    go_enter Try.func11, Try.ntmps11
    go_wp2_with fail
    refine (best_c a n cap l _ (w.heap.size + 1) w.heap.size worn spread (by go_simp) (by go_simp) (hl'.out.keeps hk.out) hm'.out).mono ?_
    rintro e w1 ⟨rfl, k1⟩
    have k1' := Lib.hid k1
    clear k1
    go_wp2_with fail
    go_ret
    exact ⟨rfl, hk.out.trans k1'.out⟩

def firstSick (l : Nat → Sup) (k : Nat) : Nat → Int
  | 0 => -1
  | f + 1 => if (l k).sick then k else firstSick l (k + 1) f
theorem firstSick_yes {l : Nat → Sup} {k n : Nat} (hk : k < n) (h : (l k).sick = true) : firstSick l k (n - k) = k := by
  obtain ⟨f, hf⟩ : ∃ f, n - k = f + 1 := ⟨n - k - 1, by omega⟩
  rw [hf, firstSick, if_pos h]
theorem firstSick_no {l : Nat → Sup} {k n : Nat} (hk : k < n) (h : (l k).sick = false) : firstSick l k (n - k) = firstSick l (k + 1) (n - (k + 1)) := by
  obtain ⟨f, hf⟩ : ∃ f, n - k = f + 1 := ⟨n - k - 1, by omega⟩
  have hf' : n - (k + 1) = f := by omega
  rw [hf, hf', firstSick, h]; rfl
theorem firstSick_end {l : Nat → Sup} {k n : Nat} (hk : n ≤ k) : firstSick l k (n - k) = -1 := by
  have hf' : n - k = 0 := by omega
  rw [hf', firstSick]

set_option maxHeartbeats 1000000 in
theorem indexSick_any (a : Option Addr) (n cap : Nat) (l : Nat → Sup) (w : World) (hl : SupsAt w a n l) (hm : n ≤ maxLen) :
    Calls Try.prog 26 #[.slice a n cap, .func (.func 27) #[] #[]] w fun e w' => e = .returned (.int .i64 (firstSick l 0 n)) ∧ Keeps Nil w w' := by
  unfold maxLen at hm
  have hl' := Lib.hid hl
  clear hl
  go_enter Try.func26, Try.ntmps26
  go_wp2_with fail
  go_loopw [8] (fun i wr => ∃ k : Nat, k ≤ n ∧ i = .int .i64 k ∧ Keeps Nil w wr ∧ Hid (firstSick l 0 n = firstSick l k (n - k))) (fun i _ => n - (intOf i).toNat)
  case atStart => exact ⟨0, Nat.zero_le _, rfl, Keeps.refl _ _, rfl⟩
  case round =>
    obtain ⟨k, hk, rfl, hkp, hrel⟩ := hrel
    have hkp' := Lib.hid hkp
    clear hkp
    by_cases hlt : k < n
    · obtain ⟨b, off, rfl, c0, c1, c2, c3, c4, c5, c6⟩ := (hl'.out.keeps hkp'.out) k hlt
      cases hs : (l k).sick
      · have hrel2 := Lib.hid (hrel.out.trans (firstSick_no hlt hs))
        have hs' := Lib.hid hs
        clear hrel hs
        go_wp2_with fail
        refine (sickb_any (l k) _).mono ?_
        rw [hs'.out]
        rintro e w1 ⟨rfl, k1⟩
        have k1' := Lib.hid k1
        clear k1
        go_wp2_with fail
        go_roundw
        case rel => exact ⟨k + 1, by omega, by go_num, hkp'.out.trans k1'.out, hrel2⟩
        case measure => simp [intOf]; omega
      · have hrel2 := Lib.hid (hrel.out.trans (firstSick_yes hlt hs))
        have hs' := Lib.hid hs
        clear hrel hs
        go_wp2_with fail
        refine (sickb_any (l k) _).mono ?_
        rw [hs'.out]
        rintro e w1 ⟨rfl, k1⟩
        have k1' := Lib.hid k1
        clear k1
        go_wp2_with fail
        go_ret
        rw [hrel2.out]
        exact ⟨rfl, hkp'.out.trans k1'.out⟩
    · have hrel2 := Lib.hid (hrel.out.trans (firstSick_end (by omega)))
      clear hrel
      go_wp2_with fail
      go_ret
      rw [hrel2.out]
      exact ⟨rfl, hkp'.out⟩
end Go.Proofs.Ytiemfmkaofakoaa
