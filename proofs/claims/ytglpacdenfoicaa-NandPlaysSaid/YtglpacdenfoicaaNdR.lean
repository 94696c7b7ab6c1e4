/- nand: the calls that only tell; calls that are refused -/
import Derived.Test.YtglpacdenfoicaaNdQ
namespace Go.Proofs.Ytglpacdenfoicaa
open Go.RowKit

variable {w w' : World} {ab bb bc fc : Nat} {db : Nat → Nat} {pb : Nat → Nat → Nat} {fa : Option Addr} {L : List Fx} {A A' : Nd} {O T : Nat → Prop}
theorem next18 (h : NdB w ab A bb bc db pb fa fc L O) {d n : Nat} (hd : d < A.S.dies) (hn : n < A.S.blocks) :
    Calls Try.prog 18 #[.pointer (some ⟨ab, 0, none⟩), .int .i64 (d : Nat), .int .i64 (n : Nat)] w fun e w' => e = .returned (.int .i64 (A.B d n).next) ∧ w' = w := by
  have hAt := Lib.hid (at_in h hd hn)
  obtain ⟨_, d1, _, _⟩ := h.cellD hd hn
  clear h
  go_enter Try.func18, Try.ntmps18
  go_wp2_with fail
  refine (hAt.out).mono ?_
  rintro e w1 ⟨rfl, hw1⟩
  rw [hw1]
  clear hw1
  go_wp2_with fail
  go_ret
  exact ⟨rfl, rfl⟩
theorem next18_out (h : NdB w ab A bb bc db pb fa fc L O) (d n : Int) (hno : d < 0 ∨ (A.S.dies : Int) ≤ d ∨ n < 0 ∨ (A.S.blocks : Int) ≤ n) :
    Calls Try.prog 18 #[.pointer (some ⟨ab, 0, none⟩), .int .i64 d, .int .i64 n] w fun e w' => e = .returned (.int .i64 (-1)) ∧ w' = w := by
  have hAt := Lib.hid (at_out h d n hno)
  clear h hno
  go_enter Try.func18, Try.ntmps18
  go_wp2_with fail
  refine (hAt.out).mono ?_
  rintro e w1 ⟨rfl, hw1⟩
  rw [hw1]
  clear hw1
  go_wp2_with fail
  go_ret
  exact ⟨rfl, rfl⟩
theorem erases49 (h : NdB w ab A bb bc db pb fa fc L O) {d n : Nat} (hd : d < A.S.dies) (hn : n < A.S.blocks) :
    Calls Try.prog 49 #[.pointer (some ⟨ab, 0, none⟩), .int .i64 (d : Nat), .int .i64 (n : Nat)] w fun e w' => e = .returned (.int .i64 ((A.B d n).er : Nat)) ∧ w' = w := by
  have hAt := Lib.hid (at_in h hd hn)
  obtain ⟨_, _, d2, _⟩ := h.cellD hd hn
  clear h
  go_enter Try.func49, Try.ntmps49
  go_wp2_with fail
  refine (hAt.out).mono ?_
  rintro e w1 ⟨rfl, hw1⟩
  rw [hw1]
  clear hw1
  go_wp2_with fail
  go_ret
  exact ⟨rfl, rfl⟩
theorem erases49_out (h : NdB w ab A bb bc db pb fa fc L O) (d n : Int) (hno : d < 0 ∨ (A.S.dies : Int) ≤ d ∨ n < 0 ∨ (A.S.blocks : Int) ≤ n) :
    Calls Try.prog 49 #[.pointer (some ⟨ab, 0, none⟩), .int .i64 d, .int .i64 n] w fun e w' => e = .returned (.int .i64 0) ∧ w' = w := by
  have hAt := Lib.hid (at_out h d n hno)
  clear h hno
  go_enter Try.func49, Try.ntmps49
  go_wp2_with fail
  refine (hAt.out).mono ?_
  rintro e w1 ⟨rfl, hw1⟩
  rw [hw1]
  clear hw1
  go_wp2_with fail
  go_ret
  exact ⟨rfl, rfl⟩
theorem ops19 (h : NdB w ab A bb bc db pb fa fc L O) : Calls Try.prog 19 #[.pointer (some ⟨ab, 0, none⟩)] w fun e w' => e = .returned (.int .i64 (A.ops : Nat)) ∧ w' = w := by
  have c7 := h.cell 7
  simp only [ndCells, List.getElem?_toArray, List.getElem?_cons_zero, List.getElem?_cons_succ] at c7
  clear h
  go_enter Try.func19, Try.ntmps19
  go_wp2_with fail
  go_ret
  exact ⟨rfl, rfl⟩
theorem power21 (h : NdB w ab A bb bc db pb fa fc L O) : Calls Try.prog 21 #[.pointer (some ⟨ab, 0, none⟩)] w fun e w' => e = .returned (.bool (!A.off)) ∧ w' = w := by
  have c6 := h.cell 6
  simp only [ndCells, List.getElem?_toArray, List.getElem?_cons_zero, List.getElem?_cons_succ] at c6
  clear h
  obtain ⟨o, ho⟩ : ∃ o, A.off = o := ⟨_, rfl⟩
  rw [ho] at c6 ⊢
  clear ho
  cases o
  all_goals
    go_enter Try.func21, Try.ntmps21
    go_wp2_with fail
    go_ret
    exact ⟨rfl, rfl⟩
theorem on20 (h : NdB w ab A bb bc db pb fa fc L O) : Calls Try.prog 20 #[.pointer (some ⟨ab, 0, none⟩)] w fun e w' => e = .returned (.tuple #[]) ∧ NdB w' ab { A with off := false } bb bc db pb fa fc L O ∧ Keeps (· = ab) w w' := by
  have c6 := h.cell 6
  have f6 := frozen_of_heap h.blk 6
  simp only [ndCells, List.getElem?_toArray, List.getElem?_cons_zero, List.getElem?_cons_succ] at c6
  have h' := Lib.hid h
  clear h
  go_enter Try.func20, Try.ntmps20
  go_wp2_with fail
  go_end0
  have k := (Keeps.refl (· = ab) w).setCell (p := ⟨ab, 6, none⟩) (.inl rfl) (.bool false)
  exact ⟨rfl, h'.out.editA (A' := { A with off := false }) k (heap_setCell_same h'.out.blk 6 _) rfl rfl rfl, k⟩
theorem erase16_off (h : NdB w ab A bb bc db pb fa fc L O) (hoff : A.off = true) (d n : Int) : Calls Try.prog 16 #[.pointer (some ⟨ab, 0, none⟩), .int .i64 d, .int .i64 n] w fun e w' => e = .returned (.int .i64 40) ∧ w' = w := by
  have c6 := h.cell 6
  simp only [ndCells, List.getElem?_toArray, List.getElem?_cons_zero, List.getElem?_cons_succ] at c6
  rw [hoff] at c6
  clear h hoff
  go_enter Try.func16, Try.ntmps16
  go_wp2_with fail
  go_ret
  exact ⟨rfl, rfl⟩
theorem erase16_arg (h : NdB w ab A bb bc db pb fa fc L O) (hoff : A.off = false) (d n : Int) (hno : d < 0 ∨ (A.S.dies : Int) ≤ d ∨ n < 0 ∨ (A.S.blocks : Int) ≤ n) : Calls Try.prog 16 #[.pointer (some ⟨ab, 0, none⟩), .int .i64 d, .int .i64 n] w fun e w' => e = .returned (.int .i64 1) ∧ w' = w := by
  have c6 := h.cell 6
  simp only [ndCells, List.getElem?_toArray, List.getElem?_cons_zero, List.getElem?_cons_succ] at c6
  rw [hoff] at c6
  have hAt := Lib.hid (at_out h d n hno)
  clear h hoff hno
  go_enter Try.func16, Try.ntmps16
  go_wp2_with fail
  refine (hAt.out).mono ?_
  rintro e w1 ⟨rfl, hw1⟩
  rw [hw1]
  clear hw1
  go_wp2_with fail
  go_ret
  exact ⟨rfl, rfl⟩
theorem prog13_off (h : NdB w ab A bb bc db pb fa fc L O) (hoff : A.off = true) (d n p : Int) (v : Value) : Calls Try.prog 13 #[.pointer (some ⟨ab, 0, none⟩), .int .i64 d, .int .i64 n, .int .i64 p, v] w fun e w' => e = .returned (.int .i64 40) ∧ w' = w := by
  have c6 := h.cell 6
  simp only [ndCells, List.getElem?_toArray, List.getElem?_cons_zero, List.getElem?_cons_succ] at c6
  rw [hoff] at c6
  clear h hoff
  go_enter Try.func13, Try.ntmps13
  go_wp2_with fail
  go_ret
  exact ⟨rfl, rfl⟩
theorem prog13_order (h : NdB w ab A bb bc db pb fa fc L O) (hoff : A.off = false) {d n p m xc : Nat} {xa : Option Addr} (hd : d < A.S.dies) (hn : n < A.S.blocks) (hp : p < A.S.pages) (hm : m = A.S.bytes) (hnx : (A.B d n).next ≠ (p : Int)) :
    Calls Try.prog 13 #[.pointer (some ⟨ab, 0, none⟩), .int .i64 (d : Nat), .int .i64 (n : Nat), .int .i64 (p : Nat), .slice xa m xc] w fun e w' => e = .returned (.int .i64 42) ∧ w' = w := by
  have hAt := Lib.hid (at_in h hd hn)
  have c6 := h.cell 6
  have c2 := h.cell 2
  have c3 := h.cell 3
  obtain ⟨_, d1, _, _⟩ := h.cellD hd hn
  simp only [ndCells, List.getElem?_toArray, List.getElem?_cons_zero, List.getElem?_cons_succ] at c6 c2 c3
  rw [hoff] at c6
  rw [← hm] at c3
  obtain ⟨z, hz⟩ : ∃ z, (A.B d n).next = z := ⟨_, rfl⟩
  rw [hz] at d1 hnx
  have e1 : ((p : Int) != z) = true := by simpa using fun e => hnx e.symm
  have e2 : ((p : Int) == z) = false := by simpa using fun e => hnx e.symm
  clear h hoff hm hz hnx
  go_enter Try.func13, Try.ntmps13
  go_wp2_with fail
  refine (hAt.out).mono ?_
  rintro e w1 ⟨rfl, hw1⟩
  rw [hw1]
  clear hw1
  go_wp2_with fail
  go_ret
  exact ⟨rfl, rfl⟩
end Go.Proofs.Ytglpacdenfoicaa
