/- Choose, the reference's, whatever the policy; awake; VictimChooses and VictimWears: the walks -/
import Derived.Test.YtiemfmkaofakoaaF2
namespace Go.Proofs.Ytiemfmkaofakoaa
open Go.RowKit

set_option maxHeartbeats 1000000 in
set_option maxRecDepth 100000 in
theorem rchoose_any (a : Option Addr) (n cap : Nat) (l : Nat → Sup) (policy : Int) (w : World) (hl : SupsAt w a n l) (hm : n ≤ maxLen) :
    Calls Try.prog 10 #[.slice a n cap, .int .i64 policy] w fun e w' => e = .returned (.int .i64 (chooseR l n policy)) ∧ Keeps Nil w w' := by
  unfold chooseR
  by_cases h1 : policy = 1
  · rw [if_pos h1, sel_ref (c := greedy) (key_ordr _) (ltB greedy) (fun _ _ => rfl) n, h1]
    exact rchoose_g a n cap l w hl hm
  · rw [if_neg h1]
    by_cases h2 : policy = 2
    · rw [if_pos h2, sel_ref (c := benef) benef_ordr (ltB benef) (fun _ _ => rfl) n, h2]
      exact rchoose_b a n cap l w hl hm
    · rw [if_neg h2]
      have e1 : (policy != 1) = true := by simpa using h1
      have e2 : (policy != 2) = true := by simpa using h2
      clear h1 h2
      go_enter Try.func10, Try.ntmps10
      go_wp2_with fail
      go_ret
      exact ⟨rfl, Keeps.refl _ _⟩

def l3 : Nat → Sup
  | 0 => ⟨1, 3, 8, 1, 0, 0, false⟩
  | 1 => ⟨2, 2, 8, 0, 0, 0, false⟩
  | _ => ⟨3, 8, 8, 9, 0, 0, false⟩

theorem choose_val (a : Option Addr) (n cap : Nat) (l : Nat → Sup) (policy v : Int) (w : World) (hl : SupsAt w a n l) (hm : n ≤ maxLen) (hv : chooseR l n policy = v) :
    Calls Try.prog 9 #[.slice a n cap, .int .i64 policy] w fun e w' => e = .returned (.int .i64 v) ∧ Keeps Nil w w' := by subst hv; exact choose_any a n cap l policy w hl hm
theorem cold_val (a : Option Addr) (n cap : Nat) (l : Nat → Sup) (worn spread v : Int) (w : World) (hl : SupsAt w a n l) (hm : n ≤ maxLen) (hv : coldR l n worn spread = v) :
    Calls Try.prog 11 #[.slice a n cap, .int .i64 worn, .int .i64 spread] w fun e w' => e = .returned (.int .i64 v) ∧ Keeps Nil w w' := by subst hv; exact cold_any a n cap l worn spread w hl hm
theorem sick_val (a : Option Addr) (n cap : Nat) (l : Nat → Sup) (reads v : Int) (w : World) (hl : SupsAt w a n l) (hm : n ≤ maxLen) (hv : sickR l n reads = v) :
    Calls Try.prog 13 #[.slice a n cap, .int .i64 reads] w fun e w' => e = .returned (.int .i64 v) ∧ Keeps Nil w w' := by subst hv; exact sick_any a n cap l reads w hl hm

theorem l3_at (w : World) : SupsAt (w.alloc (.cells #[.int .u32 1, .int .i64 3, .int .i64 8, .int .i64 1, .int .i64 0, .int .i64 0, .bool false, .int .u32 2, .int .i64 2, .int .i64 8, .int .i64 0, .int .i64 0, .int .i64 0, .bool false, .int .u32 3, .int .i64 8, .int .i64 8, .int .i64 9, .int .i64 0, .int .i64 0, .bool false] 30)) (some ⟨w.heap.size, 0, none⟩) 3 l3 := by
  intro j hj
  refine ⟨w.heap.size, 0, rfl, ?_⟩
  match j, hj with
  | 0, _ => constructor <;> (rw [World.cell?_alloc_at _ _ _ _ rfl]; rfl)
  | 1, _ => constructor <;> (rw [World.cell?_alloc_at _ _ _ _ rfl]; rfl)
  | 2, _ => constructor <;> (rw [World.cell?_alloc_at _ _ _ _ rfl]; rfl)

set_option maxHeartbeats 1000000 in
theorem awake_any (w : World) : Calls Try.prog 8 #[] w fun e w' => e = .returned (.bool true) ∧ Keeps Nil w w' := by
  have h0 := Lib.hid (l3_at w)
  have hk := Lib.hid ((Keeps.refl Nil w).alloc (.cells #[.int .u32 1, .int .i64 3, .int .i64 8, .int .i64 1, .int .i64 0, .int .i64 0, .bool false, .int .u32 2, .int .i64 2, .int .i64 8, .int .i64 0, .int .i64 0, .int .i64 0, .bool false, .int .u32 3, .int .i64 8, .int .i64 8, .int .i64 9, .int .i64 0, .int .i64 0, .bool false] 30))
  go_enter Try.func8, Try.ntmps8
  go_wp2_with fail
  refine (choose_val _ 3 _ l3 1 1 _ h0.out (by decide) (by decide)).mono ?_
  rintro e w1 ⟨rfl, k1⟩
  have h1 := Lib.hid (h0.out.keeps k1)
  have k1' := Lib.hid (hk.out.trans k1)
  clear k1
  go_wp2_with fail
  refine (choose_val _ 3 _ l3 2 0 _ h1.out (by decide) (by decide)).mono ?_
  rintro e w2 ⟨rfl, k1⟩
  have h2 := Lib.hid (h1.out.keeps k1)
  have k2' := Lib.hid (k1'.out.trans k1)
  clear k1
  go_wp2_with fail
  refine (choose_val _ 3 _ l3 9 (-1) _ h2.out (by decide) (by decide)).mono ?_
  rintro e w3 ⟨rfl, k1⟩
  have h3 := Lib.hid (h2.out.keeps k1)
  have k3' := Lib.hid (k2'.out.trans k1)
  clear k1
  go_wp2_with fail
  refine (cold_val _ 3 _ l3 5 2 0 _ h3.out (by decide) (by decide)).mono ?_
  rintro e w4 ⟨rfl, k1⟩
  have h4 := Lib.hid (h3.out.keeps k1)
  have k4' := Lib.hid (k3'.out.trans k1)
  clear k1
  go_wp2_with fail
  refine (sick_val _ 3 _ l3 0 (-1) _ h4.out (by decide) (by decide)).mono ?_
  rintro e w5 ⟨rfl, k1⟩
  have k5' := Lib.hid (k4'.out.trans k1)
  clear k1
  go_wp2_with fail
  go_ret
  exact ⟨rfl, k5'.out⟩

set_option maxHeartbeats 1000000 in
theorem chooses_any (a : Option Addr) (n cap : Nat) (l : Nat → Sup) (policy : Int) (w : World) (hl : SupsAt w a n l) (hm : n ≤ maxLen) :
    Calls Try.prog 3 #[.slice a n cap, .int .i64 policy] w fun e w' => e = .returned (.bool true) ∧ Keeps Nil w w' := by
  have hm' := Lib.hid hm
  unfold maxLen at hm
  have hl' := Lib.hid hl
  clear hl
  go_enter Try.func3, Try.ntmps3
  go_wp2_with fail
  refine (awake_any w).mono ?_
  rintro e w1 ⟨rfl, k1⟩
  have k1' := Lib.hid k1
  clear k1
  by_cases h2 : 200 < n
  · have d1 : decide ((200 : Int) < n) = true := decide_eq_true (by omega)
    go_wp2_with fail
    go_ret
    exact ⟨rfl, k1'.out⟩
  · have d1 : decide ((200 : Int) < n) = false := decide_eq_false (by omega)
    go_wp2_with fail
    go_loopw [6] (fun p wr => ∃ k : Nat, k ≤ 4 ∧ p = .int .i64 k ∧ Keeps Nil w wr) (fun p _ => 4 - (intOf p).toNat)
    case atStart => exact ⟨0, by omega, rfl, k1'.out⟩
    case round =>
      obtain ⟨k, hk, rfl, hkp⟩ := hrel
      have hkp' := Lib.hid hkp
      clear hkp
      by_cases h4 : k ≤ 3
      · go_wp2_with fail
        refine (choose_any a n cap l k _ (hl'.out.keeps hkp'.out) hm'.out).mono ?_
        rintro e w2 ⟨rfl, k2⟩
        have k2' := Lib.hid (hkp'.out.trans k2)
        clear k2
        go_wp2_with fail
        refine (rchoose_any a n cap l k _ (hl'.out.keeps k2'.out) hm'.out).mono ?_
        rintro e w3 ⟨rfl, k3⟩
        have k3' := Lib.hid (k2'.out.trans k3)
        clear k3
        have d2 : (chooseR l n k != chooseR l n k) = false := by simp
        go_wp2_with fail
        go_roundw
        case rel => exact ⟨k + 1, by omega, by go_num, k3'.out⟩
        case measure => simp [intOf]; omega
      · go_wp2_with fail
        refine (choose_any a n cap l policy _ (hl'.out.keeps hkp'.out) hm'.out).mono ?_
        rintro e w2 ⟨rfl, k2⟩
        have k2' := Lib.hid (hkp'.out.trans k2)
        clear k2
        go_wp2_with fail
        refine (rchoose_any a n cap l policy _ (hl'.out.keeps k2'.out) hm'.out).mono ?_
        rintro e w3 ⟨rfl, k3⟩
        have k3' := Lib.hid (k2'.out.trans k3)
        clear k3
        have d2 : (chooseR l n policy == chooseR l n policy) = true := by simp
        go_wp2_with fail
        go_ret
        exact ⟨rfl, k3'.out⟩

set_option maxHeartbeats 1000000 in
theorem wears_any (a : Option Addr) (n cap : Nat) (l : Nat → Sup) (worn spread reads : Int) (w : World) (hl : SupsAt w a n l) (hm : n ≤ maxLen) :
    Calls Try.prog 4 #[.slice a n cap, .int .i64 worn, .int .i64 spread, .int .i64 reads] w fun e w' => e = .returned (.bool true) ∧ Keeps Nil w w' := by
  have hm' := Lib.hid hm
  clear hm
  have hl' := Lib.hid hl
  clear hl
  have d1 : (coldR l n worn spread == coldR l n worn spread) = true := by simp
  have d2 : (sickR l n reads == sickR l n reads) = true := by simp
  go_enter Try.func4, Try.ntmps4
  go_wp2_with fail
  refine (awake_any w).mono ?_
  rintro e w1 ⟨rfl, k1⟩
  have k1' := Lib.hid k1
  clear k1
  go_wp2_with fail
  refine (cold_any a n cap l worn spread _ (hl'.out.keeps k1'.out) hm'.out).mono ?_
  rintro e w2 ⟨rfl, k2⟩
  have k2' := Lib.hid (k1'.out.trans k2)
  clear k2
  go_wp2_with fail
  refine (rcold_any a n cap l worn spread _ (hl'.out.keeps k2'.out) hm'.out).mono ?_
  rintro e w3 ⟨rfl, k3⟩
  have k3' := Lib.hid (k2'.out.trans k3)
  clear k3
  go_wp2_with fail
  refine (sick_any a n cap l reads _ (hl'.out.keeps k3'.out) hm'.out).mono ?_
  rintro e w4 ⟨rfl, k4⟩
  have k4' := Lib.hid (k3'.out.trans k4)
  clear k4
  go_wp2_with fail
  refine (rsick_any a n cap l reads _ (hl'.out.keeps k4'.out) hm'.out).mono ?_
  rintro e w5 ⟨rfl, k5⟩
  have k5' := Lib.hid (k4'.out.trans k5)
  clear k5
  go_wp2_with fail
  go_ret
  exact ⟨ret_bool (by simp), k5'.out⟩
end Go.Proofs.Ytiemfmkaofakoaa
