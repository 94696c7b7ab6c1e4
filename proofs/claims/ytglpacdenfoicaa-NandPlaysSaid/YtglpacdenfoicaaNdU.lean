/- nand: Read that refuses -/
import Derived.Test.YtglpacdenfoicaaNdT
namespace Go.Proofs.Ytglpacdenfoicaa
open Go.RowKit

variable {w w' : World} {ab bb bc fc : Nat} {db : Nat → Nat} {pb : Nat → Nat → Nat} {fa : Option Addr} {L : List Fx} {A A' : Nd} {O T : Nat → Prop}
theorem read14_off (h : NdB w ab A bb bc db pb fa fc L O) (hoff : A.off = true) (d n p : Int) : Calls Try.prog 14 #[.pointer (some ⟨ab, 0, none⟩), .int .i64 d, .int .i64 n, .int .i64 p] w fun e w' => e = .returned (.tuple #[.slice none 0 0, .int .i64 40]) ∧ Keeps Nil w w' := by
  have k1 := Lib.hid (((((Keeps.refl Nil w).alloc (.cells #[.pointer (some ⟨ab, 0, none⟩)] 26)).alloc (.cells #[.int .i64 d] 3)).alloc (.cells #[.int .i64 n] 3)).alloc (.cells #[.int .i64 p] 3))
  have hN1 := h.keeps k1.out (fun _ _ h => h)
  have c6 := hN1.cell 6
  simp only [ndCells, List.getElem?_toArray, List.getElem?_cons_zero, List.getElem?_cons_succ] at c6
  rw [hoff] at c6
  clear h hoff hN1
  go_enter Try.func14, Try.ntmps14
  go_wp2_with fail
  go_ret2
  exact ⟨rfl, k1.out⟩
set_option maxHeartbeats 4000000 in
set_option maxRecDepth 100000 in
theorem read14_at (h : NdB w ab A bb bc db pb fa fc L O) (hoff : A.off = false) (d n p : Int) (hno : d < 0 ∨ (A.S.dies : Int) ≤ d ∨ n < 0 ∨ (A.S.blocks : Int) ≤ n) : Calls Try.prog 14 #[.pointer (some ⟨ab, 0, none⟩), .int .i64 d, .int .i64 n, .int .i64 p] w fun e w' => e = .returned (.tuple #[.slice none 0 0, .int .i64 1]) ∧ Keeps Nil w w' := by
  obtain ⟨s, hs⟩ : ∃ s : Nat, w.heap.size = s := ⟨_, rfl⟩
  obtain ⟨w1, hw1⟩ : ∃ w1, (((w.alloc (.cells #[.pointer (some ⟨ab, 0, none⟩)] 26)).alloc (.cells #[.int .i64 d] 3)).alloc (.cells #[.int .i64 n] 3)).alloc (.cells #[.int .i64 p] 3) = w1 := ⟨_, rfl⟩
  have k1 : Keeps Nil w w1 := by rw [← hw1]; exact ((((Keeps.refl Nil w).alloc _).alloc _).alloc _).alloc _
  have b0 : w1.heap[s]? = some (.cells #[.pointer (some ⟨ab, 0, none⟩)] 26 (0, 0)) := by rw [← hw1, ← hs]; exact heap_alloc_old (heap_alloc_old (heap_alloc_old (heap_alloc_new w _)))
  have b1 : w1.heap[s + 1]? = some (.cells #[.int .i64 d] 3 (0, 0)) := by rw [← hw1, ← hs]; exact heap_alloc_old (heap_alloc_old (heap_new_at (by simp)))
  have b2 : w1.heap[s + 1 + 1]? = some (.cells #[.int .i64 n] 3 (0, 0)) := by rw [← hw1, ← hs]; exact heap_alloc_old (heap_new_at (by simp))
  have b3 : w1.heap[s + 1 + 1 + 1]? = some (.cells #[.int .i64 p] 3 (0, 0)) := by rw [← hw1, ← hs]; exact heap_new_at (by simp)
  have hN1 := h.keeps k1 (fun _ _ h => h)
  have c6 := hN1.cell 6
  simp only [ndCells, List.getElem?_toArray, List.getElem?_cons_zero, List.getElem?_cons_succ] at c6
  rw [hoff] at c6
  have x0 := cell_of_heap b0 0
  have x1 := cell_of_heap b1 0
  have x2 := cell_of_heap b2 0
  simp only [List.getElem?_toArray, List.getElem?_cons_zero] at x0 x1 x2
  have hAt := at_out hN1 d n hno
  rw [← hw1] at c6 x0 x1 x2 hAt
  have hAt' := Lib.hid hAt
  have hs' := Lib.hid hs
  have hw1' := Lib.hid hw1
  have h' := Lib.hid h
  have hbx := Lib.hid (And.intro b0 (And.intro b1 (And.intro b2 b3)))
  have k1' := Lib.hid k1
  have hy := Lib.hid (show True ∧ True from ⟨trivial, trivial⟩)
  rw [← hs] at x0 x1 x2
  clear h hoff hs hw1 b0 b1 b2 b3 k1 hN1 hAt hno
  go_enter Try.func14, Try.ntmps14
  go_wp2_with fail
  rw [hw1'.out] at hAt' ⊢
  rw [hs'.out]
  refine (hAt'.out).mono ?_
  rintro e w2 ⟨rfl, hw2⟩
  rw [hw2]
  clear hw2 c6 x0 x1 x2 hAt'
  go_wp2_with fail
  obtain ⟨cb, hcb⟩ : ∃ cb : Nat, w1.heap.size = cb := ⟨_, rfl⟩
  rw [hcb]
  obtain ⟨W2, hW2⟩ : ∃ W2, w1.alloc (.cells #[.pointer none] 83) = W2 := ⟨_, rfl⟩
  have kA : Keeps Nil w1 W2 := by rw [← hW2]; exact (Keeps.refl Nil w1).alloc _
  have hb4 : W2.heap[cb]? = some (.cells #[.pointer none] 83 (0, 0)) := by rw [← hW2, ← hcb]; exact heap_alloc_new w1 _
  have hN2 := h'.out.keeps (k1'.out.trans kA) (fun _ _ h => h)
  have z0 := cell_of_heap (kA.heap hbx.out.1 (fun h => h)) 0
  have z1 := cell_of_heap (kA.heap hbx.out.2.1 (fun h => h)) 0
  have z2 := cell_of_heap (kA.heap hbx.out.2.2.1 (fun h => h)) 0
  have z3 := cell_of_heap (kA.heap hbx.out.2.2.2 (fun h => h)) 0
  have z4 := cell_of_heap hb4 0
  have c2 := hN2.cell 2
  simp only [ndCells, List.getElem?_toArray, List.getElem?_cons_zero, List.getElem?_cons_succ] at c2 z0 z1 z2 z3 z4
  have y := hy.out.2
  have kk := Lib.hid (k1'.out.trans kA)
  rw [hW2]
  clear hW2 hcb kA hb4 hN2 h' hbx k1'
  clear y
  go_quiet (fail)
  go_wp2_with fail
  go_ret2
  exact ⟨rfl, kk.out.trans ((Keeps.refl Nil W2).drewN nq)⟩
set_option maxHeartbeats 4000000 in
set_option maxRecDepth 100000 in
theorem read14_low (h : NdB w ab A bb bc db pb fa fc L O) (hoff : A.off = false) {d n : Nat} {p : Int} (hd : d < A.S.dies) (hn : n < A.S.blocks) (hp : p < 0) : Calls Try.prog 14 #[.pointer (some ⟨ab, 0, none⟩), .int .i64 (d : Nat), .int .i64 (n : Nat), .int .i64 p] w fun e w' => e = .returned (.tuple #[.slice none 0 0, .int .i64 1]) ∧ Keeps Nil w w' := by
  obtain ⟨s, hs⟩ : ∃ s : Nat, w.heap.size = s := ⟨_, rfl⟩
  obtain ⟨w1, hw1⟩ : ∃ w1, (((w.alloc (.cells #[.pointer (some ⟨ab, 0, none⟩)] 26)).alloc (.cells #[.int .i64 (d : Nat)] 3)).alloc (.cells #[.int .i64 (n : Nat)] 3)).alloc (.cells #[.int .i64 p] 3) = w1 := ⟨_, rfl⟩
  have k1 : Keeps Nil w w1 := by rw [← hw1]; exact ((((Keeps.refl Nil w).alloc _).alloc _).alloc _).alloc _
  have b0 : w1.heap[s]? = some (.cells #[.pointer (some ⟨ab, 0, none⟩)] 26 (0, 0)) := by rw [← hw1, ← hs]; exact heap_alloc_old (heap_alloc_old (heap_alloc_old (heap_alloc_new w _)))
  have b1 : w1.heap[s + 1]? = some (.cells #[.int .i64 (d : Nat)] 3 (0, 0)) := by rw [← hw1, ← hs]; exact heap_alloc_old (heap_alloc_old (heap_new_at (by simp)))
  have b2 : w1.heap[s + 1 + 1]? = some (.cells #[.int .i64 (n : Nat)] 3 (0, 0)) := by rw [← hw1, ← hs]; exact heap_alloc_old (heap_new_at (by simp))
  have b3 : w1.heap[s + 1 + 1 + 1]? = some (.cells #[.int .i64 p] 3 (0, 0)) := by rw [← hw1, ← hs]; exact heap_new_at (by simp)
  have hN1 := h.keeps k1 (fun _ _ h => h)
  have c6 := hN1.cell 6
  simp only [ndCells, List.getElem?_toArray, List.getElem?_cons_zero, List.getElem?_cons_succ] at c6
  rw [hoff] at c6
  have x0 := cell_of_heap b0 0
  have x1 := cell_of_heap b1 0
  have x2 := cell_of_heap b2 0
  simp only [List.getElem?_toArray, List.getElem?_cons_zero] at x0 x1 x2
  have hAt := at_in hN1 hd hn
  rw [← hw1] at c6 x0 x1 x2 hAt
  have hAt' := Lib.hid hAt
  have hs' := Lib.hid hs
  have hw1' := Lib.hid hw1
  have h' := Lib.hid h
  have hbx := Lib.hid (And.intro b0 (And.intro b1 (And.intro b2 b3)))
  have k1' := Lib.hid k1
  have hy := Lib.hid (show True ∧ decide (p < 0) = true from ⟨trivial, decide_eq_true hp⟩)
  rw [← hs] at x0 x1 x2
  clear h hoff hs hw1 b0 b1 b2 b3 k1 hN1 hAt hd hn hp
  go_enter Try.func14, Try.ntmps14
  go_wp2_with fail
  rw [hw1'.out] at hAt' ⊢
  rw [hs'.out]
  refine (hAt'.out).mono ?_
  rintro e w2 ⟨rfl, hw2⟩
  rw [hw2]
  clear hw2 c6 x0 x1 x2 hAt'
  go_wp2_with fail
  obtain ⟨cb, hcb⟩ : ∃ cb : Nat, w1.heap.size = cb := ⟨_, rfl⟩
  rw [hcb]
  obtain ⟨W2, hW2⟩ : ∃ W2, w1.alloc (.cells #[.pointer (some ⟨db d, n * 3, none⟩)] 83) = W2 := ⟨_, rfl⟩
  have kA : Keeps Nil w1 W2 := by rw [← hW2]; exact (Keeps.refl Nil w1).alloc _
  have hb4 : W2.heap[cb]? = some (.cells #[.pointer (some ⟨db d, n * 3, none⟩)] 83 (0, 0)) := by rw [← hW2, ← hcb]; exact heap_alloc_new w1 _
  have hN2 := h'.out.keeps (k1'.out.trans kA) (fun _ _ h => h)
  have z0 := cell_of_heap (kA.heap hbx.out.1 (fun h => h)) 0
  have z1 := cell_of_heap (kA.heap hbx.out.2.1 (fun h => h)) 0
  have z2 := cell_of_heap (kA.heap hbx.out.2.2.1 (fun h => h)) 0
  have z3 := cell_of_heap (kA.heap hbx.out.2.2.2 (fun h => h)) 0
  have z4 := cell_of_heap hb4 0
  have c2 := hN2.cell 2
  simp only [ndCells, List.getElem?_toArray, List.getElem?_cons_zero, List.getElem?_cons_succ] at c2 z0 z1 z2 z3 z4
  have y := hy.out.2
  have kk := Lib.hid (k1'.out.trans kA)
  rw [hW2]
  clear hW2 hcb kA hb4 hN2 h' hbx k1'
  skip
  go_quiet (fail)
  go_wp2_with fail
  go_ret2
  exact ⟨rfl, kk.out.trans ((Keeps.refl Nil W2).drewN nq)⟩
set_option maxHeartbeats 4000000 in
set_option maxRecDepth 100000 in
theorem read14_high (h : NdB w ab A bb bc db pb fa fc L O) (hoff : A.off = false) {d n : Nat} {p : Int} (hd : d < A.S.dies) (hn : n < A.S.blocks) (hp0 : 0 ≤ p) (hp : (A.S.pages : Int) ≤ p) : Calls Try.prog 14 #[.pointer (some ⟨ab, 0, none⟩), .int .i64 (d : Nat), .int .i64 (n : Nat), .int .i64 p] w fun e w' => e = .returned (.tuple #[.slice none 0 0, .int .i64 1]) ∧ Keeps Nil w w' := by
  obtain ⟨s, hs⟩ : ∃ s : Nat, w.heap.size = s := ⟨_, rfl⟩
  obtain ⟨w1, hw1⟩ : ∃ w1, (((w.alloc (.cells #[.pointer (some ⟨ab, 0, none⟩)] 26)).alloc (.cells #[.int .i64 (d : Nat)] 3)).alloc (.cells #[.int .i64 (n : Nat)] 3)).alloc (.cells #[.int .i64 p] 3) = w1 := ⟨_, rfl⟩
  have k1 : Keeps Nil w w1 := by rw [← hw1]; exact ((((Keeps.refl Nil w).alloc _).alloc _).alloc _).alloc _
  have b0 : w1.heap[s]? = some (.cells #[.pointer (some ⟨ab, 0, none⟩)] 26 (0, 0)) := by rw [← hw1, ← hs]; exact heap_alloc_old (heap_alloc_old (heap_alloc_old (heap_alloc_new w _)))
  have b1 : w1.heap[s + 1]? = some (.cells #[.int .i64 (d : Nat)] 3 (0, 0)) := by rw [← hw1, ← hs]; exact heap_alloc_old (heap_alloc_old (heap_new_at (by simp)))
  have b2 : w1.heap[s + 1 + 1]? = some (.cells #[.int .i64 (n : Nat)] 3 (0, 0)) := by rw [← hw1, ← hs]; exact heap_alloc_old (heap_new_at (by simp))
  have b3 : w1.heap[s + 1 + 1 + 1]? = some (.cells #[.int .i64 p] 3 (0, 0)) := by rw [← hw1, ← hs]; exact heap_new_at (by simp)
  have hN1 := h.keeps k1 (fun _ _ h => h)
  have c6 := hN1.cell 6
  simp only [ndCells, List.getElem?_toArray, List.getElem?_cons_zero, List.getElem?_cons_succ] at c6
  rw [hoff] at c6
  have x0 := cell_of_heap b0 0
  have x1 := cell_of_heap b1 0
  have x2 := cell_of_heap b2 0
  simp only [List.getElem?_toArray, List.getElem?_cons_zero] at x0 x1 x2
  have hAt := at_in hN1 hd hn
  rw [← hw1] at c6 x0 x1 x2 hAt
  have hAt' := Lib.hid hAt
  have hs' := Lib.hid hs
  have hw1' := Lib.hid hw1
  have h' := Lib.hid h
  have hbx := Lib.hid (And.intro b0 (And.intro b1 (And.intro b2 b3)))
  have k1' := Lib.hid k1
  have hy := Lib.hid (show True ∧ decide (p < 0) = false ∧ decide ((A.S.pages : Int) ≤ p) = true from ⟨trivial, decide_eq_false (by omega), decide_eq_true hp⟩)
  rw [← hs] at x0 x1 x2
  clear h hoff hs hw1 b0 b1 b2 b3 k1 hN1 hAt hd hn hp hp0
  go_enter Try.func14, Try.ntmps14
  go_wp2_with fail
  rw [hw1'.out] at hAt' ⊢
  rw [hs'.out]
  refine (hAt'.out).mono ?_
  rintro e w2 ⟨rfl, hw2⟩
  rw [hw2]
  clear hw2 c6 x0 x1 x2 hAt'
  go_wp2_with fail
  obtain ⟨cb, hcb⟩ : ∃ cb : Nat, w1.heap.size = cb := ⟨_, rfl⟩
  rw [hcb]
  obtain ⟨W2, hW2⟩ : ∃ W2, w1.alloc (.cells #[.pointer (some ⟨db d, n * 3, none⟩)] 83) = W2 := ⟨_, rfl⟩
  have kA : Keeps Nil w1 W2 := by rw [← hW2]; exact (Keeps.refl Nil w1).alloc _
  have hb4 : W2.heap[cb]? = some (.cells #[.pointer (some ⟨db d, n * 3, none⟩)] 83 (0, 0)) := by rw [← hW2, ← hcb]; exact heap_alloc_new w1 _
  have hN2 := h'.out.keeps (k1'.out.trans kA) (fun _ _ h => h)
  have z0 := cell_of_heap (kA.heap hbx.out.1 (fun h => h)) 0
  have z1 := cell_of_heap (kA.heap hbx.out.2.1 (fun h => h)) 0
  have z2 := cell_of_heap (kA.heap hbx.out.2.2.1 (fun h => h)) 0
  have z3 := cell_of_heap (kA.heap hbx.out.2.2.2 (fun h => h)) 0
  have z4 := cell_of_heap hb4 0
  have c2 := hN2.cell 2
  simp only [ndCells, List.getElem?_toArray, List.getElem?_cons_zero, List.getElem?_cons_succ] at c2 z0 z1 z2 z3 z4
  have y := hy.out.2
  have kk := Lib.hid (k1'.out.trans kA)
  rw [hW2]
  clear hW2 hcb kA hb4 hN2 h' hbx k1'
  obtain ⟨y1, y2⟩ := y
  go_quiet (fail)
  go_wp2_with fail
  go_ret2
  exact ⟨rfl, kk.out.trans ((Keeps.refl Nil W2).drewN nq)⟩
end Go.Proofs.Ytglpacdenfoicaa
