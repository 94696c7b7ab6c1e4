/- the table in a law; awake and abs -/
import Derived.Test.YtmdgbcbnciaikaaH
namespace Go.Proofs.Ytmdgbcbnciaikaa
open Go.RowKit

attribute [local go_sem ↓] Go.wp_at_zero Go.wp_at_succ

def absI (n : Int) : Int := if n < 0 then -(n + 1) else n
theorem absI_nonneg (n : Int) : 0 ≤ absI n := by unfold absI; split <;> omega
theorem absI_le {n : Int} (h0 : -9223372036854775808 ≤ n) (h1 : n ≤ 9223372036854775807) : absI n ≤ 9223372036854775807 := by unfold absI; split <;> omega
theorem abs_any (n : Int) (w : World) (h0 : -9223372036854775808 ≤ n) (h1 : n ≤ 9223372036854775807) : Calls Try.prog 8 #[.int .i64 n] w fun e w' => e = .returned (.int .i64 (absI n)) ∧ w = w' := by
  by_cases h : n < 0
  · have e1 := Lib.hid (show absI n = -(n + 1) from if_pos h)
    go_enter Try.func8, Try.ntmps8
    go_wp2_with fail
    go_ret
    exact ⟨ret_int e1.out.symm, rfl⟩
  · have e1 := Lib.hid (show absI n = n from if_neg h)
    go_enter Try.func8, Try.ntmps8
    go_wp2_with fail
    go_ret
    exact ⟨ret_int e1.out.symm, rfl⟩
theorem abs_val (n a : Int) (w : World) (h0 : -9223372036854775808 ≤ n) (h1 : n ≤ 9223372036854775807) (ha : absI n = a) : Calls Try.prog 8 #[.int .i64 n] w fun e w' => e = .returned (.int .i64 a) ∧ w = w' := by
  subst ha
  exact abs_any n w h0 h1

/-- a table of the call's own: at tb, so many keys, the places T -/
structure SpIn (w w' : World) (tb : Nat) (keys : Int) (T : List Spc) : Prop where
  at_ : TabAt w' tb 57 keys T
  ok : TabOk keys T
  keep : Keeps Nil w w'
  new : w.heap.size ≤ tb
  k0 : 1 ≤ keys
  k1 : keys ≤ 4096
theorem SpIn.same {w w1 w2 : World} {tb : Nat} {keys : Int} {T : List Spc} (h : SpIn w w1 tb keys T) (hk : Keeps Nil w1 w2) : SpIn w w2 tb keys T :=
  ⟨h.at_.keeps hk (fun h => h), h.ok, h.keep.trans hk, h.new, h.k0, h.k1⟩
theorem SpIn.other {w w1 w2 : World} {tb : Nat} {keys : Int} {T : List Spc} {S : Nat → Prop} (h : SpIn w w1 tb keys T) (hk : Keeps S w1 w2) (hn : ¬ S tb) (hS : ∀ k, S k → w.heap.size ≤ k) : SpIn w w2 tb keys T :=
  ⟨h.at_.keeps hk hn, h.ok, h.keep.trans' hk (fun j hj => .inr (hS j hj)), h.new, h.k0, h.k1⟩
theorem SpIn.create {w w1 : World} {tb : Nat} {keys : Int} {T : List Spc} (h : SpIn w w1 tb keys T) {size : Int} (hs1 : size < 9223372036854775808) :
    Calls Try.prog 10 #[.pointer (some ⟨tb, 0, none⟩), .int .i64 size] w1 fun e w' => e = .returned (.tuple #[spV (crS keys T size), .int .i64 (crE keys T size)]) ∧ SpIn w w' tb keys (crT keys T size) ∧ Keeps (· = tb) w1 w' := by
  refine (create_any h.at_ h.ok h.k0 h.k1 hs1).mono ?_
  rintro e w' ⟨rfl, hT, hk⟩
  exact ⟨rfl, ⟨hT, crT_ok h.ok, h.keep.trans' hk (fun j hj => .inr (by rw [hj]; exact h.new)), h.new, h.k0, h.k1⟩, hk⟩
theorem SpIn.delete {w w1 : World} {tb : Nat} {keys : Int} {T : List Spc} (h : SpIn w w1 tb keys T) (id : Int) :
    Calls Try.prog 11 #[.pointer (some ⟨tb, 0, none⟩), .int .i64 id] w1 fun e w' => e = .returned (.tuple #[spV (tat T id), .int .i64 (ferr (tat T id))]) ∧ SpIn w w' tb keys (tdel T id) ∧ Keeps (· = tb) w1 w' := by
  refine (delete_any h.at_ h.ok id).mono ?_
  rintro e w' ⟨rfl, hT, hk⟩
  exact ⟨rfl, ⟨hT, tdel_ok h.ok id, h.keep.trans' hk (fun j hj => .inr (by rw [hj]; exact h.new)), h.new, h.k0, h.k1⟩, hk⟩
theorem SpIn.key {w w1 : World} {tb : Nat} {keys : Int} {T : List Spc} (h : SpIn w w1 tb keys T) (id lba count : Int) (hl0 : 0 ≤ lba) (hl1 : lba < 18446744073709551616) (hc0 : -9223372036854775808 ≤ count) (hc1 : count < 9223372036854775808) :
    Calls Try.prog 13 #[.pointer (some ⟨tb, 0, none⟩), .int .i64 id, .int .u64 lba, .int .i64 count] w1 fun e w' => e = .returned (.tuple #[.int .i64 (keyV (tat T id) lba count), .int .i64 (keyE (tat T id) lba count)]) ∧ Keeps Nil w1 w' :=
  key_any h.at_ h.ok h.k1 id lba count hl0 hl1 hc0 hc1
theorem SpIn.free {w w1 : World} {tb : Nat} {keys : Int} {T : List Spc} (h : SpIn w w1 tb keys T) : Calls Try.prog 14 #[.pointer (some ⟨tb, 0, none⟩)] w1 fun e w' => e = .returned (.int .i64 (keys - spSum T)) ∧ Keeps Nil w1 w' :=
  free_any h.at_ h.ok h.k0 h.k1
theorem SpIn.all {w w1 : World} {tb : Nat} {keys : Int} {T : List Spc} (h : SpIn w w1 tb keys T) : Calls Try.prog 12 #[.pointer (some ⟨tb, 0, none⟩)] w1 (RowOut w1 (spAll T)) := all_any h.at_ h.ok.len
theorem new_in {w w0 : World} (hk : Keeps Nil w w0) {keys : Int} (h1 : 1 ≤ keys) (h2 : keys ≤ 4096) : Calls Try.prog 9 #[.int .i64 keys] w0 fun e w' => e = .returned (.tuple #[.pointer (some ⟨w0.heap.size, 0, none⟩), .int .i64 0]) ∧ SpIn w w' w0.heap.size keys (List.replicate 16 sp0) ∧ Keeps Nil w0 w' := by
  refine (new_any h1 h2 w0).mono ?_
  rintro e w' ⟨rfl, hT, hk2⟩
  exact ⟨rfl, ⟨hT, TabOk.zero keys, hk.trans hk2, hk.size, h1, h2⟩, hk2⟩

/-- the same, whatever came of it -/
theorem SpIn.create' {w w1 : World} {tb : Nat} {keys : Int} {T : List Spc} (h : SpIn w w1 tb keys T) {size : Int} (hs1 : size < 9223372036854775808) :
    Calls Try.prog 10 #[.pointer (some ⟨tb, 0, none⟩), .int .i64 size] w1 fun e w' => ∃ v T', e = .returned v ∧ SpIn w w' tb keys T' ∧ Keeps (· = tb) w1 w' :=
  (h.create hs1).mono fun _ _ ⟨h1, h2, h3⟩ => ⟨_, _, h1, h2, h3⟩
theorem SpIn.delete' {w w1 : World} {tb : Nat} {keys : Int} {T : List Spc} (h : SpIn w w1 tb keys T) (id : Int) :
    Calls Try.prog 11 #[.pointer (some ⟨tb, 0, none⟩), .int .i64 id] w1 fun e w' => ∃ v T', e = .returned v ∧ SpIn w w' tb keys T' ∧ Keeps (· = tb) w1 w' :=
  (h.delete id).mono fun _ _ ⟨h1, h2, h3⟩ => ⟨_, _, h1, h2, h3⟩

/-! ### awake, in plain words -/
def tA : List Spc := (List.replicate 16 sp0).set 0 ⟨1, 0, 60⟩
def tB : List Spc := tA.set 1 ⟨2, 60, 40⟩
theorem low0 : lowAt 100 (List.replicate 16 sp0) 60 = 0 := by
  unfold lowAt spSort
  rw [show spAll (List.replicate 16 sp0) = [] by decide, List.mergeSort_nil]
  rfl
theorem low1 : lowAt 100 tA 50 = -1 := by
  unfold lowAt spSort
  rw [show spAll tA = [⟨1, 0, 60⟩] by decide, List.mergeSort_singleton]
  rfl
theorem low2 : lowAt 100 tA 40 = 60 := by
  unfold lowAt spSort
  rw [show spAll tA = [⟨1, 0, 60⟩] by decide, List.mergeSort_singleton]
  rfl
theorem aw0 : crIf 100 (List.replicate 16 sp0) 60 = true := by unfold crIf; rw [low0]; decide
theorem aw1 : crIf 100 tA 50 = false := by unfold crIf; rw [low1]; decide
theorem aw2 : crIf 100 tA 40 = true := by unfold crIf; rw [low2]; decide
theorem awS0 : crS 100 (List.replicate 16 sp0) 60 = ⟨1, 0, 60⟩ := by unfold crS; rw [aw0, low0]; decide
theorem awT0 : crT 100 (List.replicate 16 sp0) 60 = tA := by unfold crT; rw [aw0, low0]; decide
theorem awE0 : crE 100 (List.replicate 16 sp0) 60 = 0 := by unfold crE; rw [aw0]; decide
theorem awT1 : crT 100 tA 50 = tA := by unfold crT; rw [aw1]; decide
theorem awE1 : crE 100 tA 50 = 90 := by unfold crE; rw [aw1]; decide
theorem awS1 : crS 100 tA 50 = sp0 := by unfold crS; rw [aw1]; decide
theorem awS2 : crS 100 tA 40 = ⟨2, 60, 40⟩ := by unfold crS; rw [aw2, low2]; decide
theorem awT2 : crT 100 tA 40 = tB := by unfold crT; rw [aw2, low2]; decide
theorem awE2 : crE 100 tA 40 = 0 := by unfold crE; rw [aw2]; decide

theorem cells_new3 {w w' : World} (x y z : Value) (t : TypeId) (hk : Keeps Nil (w.alloc (.cells #[x, y, z] t)) w') :
    w'.cell? ⟨w.heap.size, 0, none⟩ = some x ∧ w'.cell? ⟨w.heap.size, 1, none⟩ = some y ∧ w'.cell? ⟨w.heap.size, 2, none⟩ = some z := by
  have h := hk.heap (heap_alloc_new w _) (fun h => h)
  exact ⟨cell_of_heap h 0, cell_of_heap h 1, cell_of_heap h 2⟩

set_option maxHeartbeats 4000000 in
theorem awake_any (w : World) : Calls Try.prog 7 #[] w fun e w' => e = .returned (.bool true) ∧ Keeps Nil w w' := by
  have hN := Lib.hid (new_in (Keeps.refl Nil w) (keys := 100) (by decide) (by decide))
  go_enter Try.func7, Try.ntmps7
  go_wp2_with fail
  refine (hN.out).mono ?_
  rintro e w1 ⟨rfl, hI, hk⟩
  have hC := hI.create (size := 60) (by decide)
  rw [awS0, awT0, awE0] at hC
  simp only [spV] at hC
  have hC1 := Lib.hid hC
  obtain ⟨tb, htb⟩ : ∃ tb, w.heap.size = tb := ⟨_, rfl⟩
  rw [htb] at hC1 ⊢
  clear hI hk hC hN htb
  go_wp2_with fail
  refine (hC1.out).mono ?_
  rintro e w2 ⟨rfl, hI, hk⟩
  have hC := (hI.same ((Keeps.refl Nil w2).alloc (.cells #[.int .i64 1, .int .i64 0, .int .i64 60] 30))).create (size := 50) (by decide)
  rw [awS1, awT1, awE1] at hC
  simp only [spV, sp0] at hC
  have hC2 := Lib.hid hC
  have ht2 := Lib.hid (lt_of_heap hI.at_)
  clear hI hk hC hC1
  go_wp2_with fail
  refine (hC2.out).mono ?_
  rintro e w3 ⟨rfl, hI, hk⟩
  have hh3 := Lib.hid (hk.heap (heap_alloc_new w2 _) (fun e => by have := ht2.out; omega))
  have hs3 := Lib.hid hk.size
  have hC := (hI.same ((Keeps.refl Nil w3).alloc (.cells #[.int .i64 0, .int .i64 0, .int .i64 0] 30))).create (size := 40) (by decide)
  rw [awS2, awT2, awE2] at hC
  simp only [spV] at hC
  have hC3 := Lib.hid hC
  clear hI hk hC hC2
  go_wp2_with fail
  refine (hC3.out).mono ?_
  rintro e w4 ⟨rfl, hI, hk⟩
  have hh4 := Lib.hid ((((Keeps.refl (· = tb) w3).alloc _).trans hk).heap hh3.out (fun e => by have := ht2.out; omega))
  have hI' := Lib.hid hI
  have hC := (hI.same ((Keeps.refl Nil w4).alloc (.cells #[.int .i64 2, .int .i64 60, .int .i64 40] 30))).key 2 9 1 (by decide) (by decide) (by decide) (by decide)
  rw [show keyV (tat tB 2) 9 1 = 69 by decide, show keyE (tat tB 2) 9 1 = 0 by decide] at hC
  have hC4 := Lib.hid hC
  clear hI hk hC hC3 hh3
  go_wp2_with fail
  refine (hC4.out).mono ?_
  rintro e w5 ⟨rfl, hk⟩
  obtain ⟨a0, a1, a2⟩ := cells_new3 _ _ _ _ hk
  have hh5 := (((Keeps.refl Nil w4).alloc _).trans hk).heap hh4.out (fun h => h)
  have b0 := cell_of_heap hh5 0
  have b1 := cell_of_heap hh5 1
  have b2 := cell_of_heap hh5 2
  have hI5 := hI'.out.same (((Keeps.refl Nil w4).alloc _).trans hk)
  have hF := hI5.free
  rw [show (100 : Int) - spSum tB = 0 by decide] at hF
  have hF' := Lib.hid hF
  have hI5' := Lib.hid hI5
  clear hk hC4 hh5 hI5 hF
  go_wp2_with fail
  refine (hF'.out).mono ?_
  rintro e w6 ⟨rfl, hk⟩
  have hk6 := Lib.hid hk
  clear hk
  go_wp2_with fail
  go_ret
  exact ⟨rfl, hI5'.out.keep.trans hk6.out⟩
end Go.Proofs.Ytmdgbcbnciaikaa
