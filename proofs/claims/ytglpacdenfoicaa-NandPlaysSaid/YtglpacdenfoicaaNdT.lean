/- nand: Program and Read that refuse -/
import Derived.Test.YtglpacdenfoicaaNdS
namespace Go.Proofs.Ytglpacdenfoicaa
open Go.RowKit

variable {w w' : World} {ab bb bc fc : Nat} {db : Nat → Nat} {pb : Nat → Nat → Nat} {fa : Option Addr} {L : List Fx} {A A' : Nd} {O T : Nat → Prop}
theorem prog13_at (h : NdB w ab A bb bc db pb fa fc L O) (hoff : A.off = false) (d n p : Int) (v : Value) (hno : d < 0 ∨ (A.S.dies : Int) ≤ d ∨ n < 0 ∨ (A.S.blocks : Int) ≤ n) : Calls Try.prog 13 #[.pointer (some ⟨ab, 0, none⟩), .int .i64 d, .int .i64 n, .int .i64 p, v] w fun e w' => e = .returned (.int .i64 1) ∧ w' = w := by
  have c6 := h.cell 6
  simp only [ndCells, List.getElem?_toArray, List.getElem?_cons_zero, List.getElem?_cons_succ] at c6
  rw [hoff] at c6
  have hAt := Lib.hid (at_out h d n hno)
  clear h hoff hno
  go_enter Try.func13, Try.ntmps13
  go_wp2_with fail
  refine (hAt.out).mono ?_
  rintro e w1 ⟨rfl, hw1⟩
  rw [hw1]
  clear hw1
  go_wp2_with fail
  go_ret
  exact ⟨rfl, rfl⟩
theorem prog13_low (h : NdB w ab A bb bc db pb fa fc L O) (hoff : A.off = false) {d n : Nat} {p : Int} (v : Value) (hd : d < A.S.dies) (hn : n < A.S.blocks) (hp : p < 0) : Calls Try.prog 13 #[.pointer (some ⟨ab, 0, none⟩), .int .i64 (d : Nat), .int .i64 (n : Nat), .int .i64 p, v] w fun e w' => e = .returned (.int .i64 1) ∧ w' = w := by
  have hAt := Lib.hid (at_in h hd hn)
  have c6 := h.cell 6
  simp only [ndCells, List.getElem?_toArray, List.getElem?_cons_zero, List.getElem?_cons_succ] at c6
  rw [hoff] at c6
  clear h hoff hd hn
  go_enter Try.func13, Try.ntmps13
  go_wp2_with fail
  refine (hAt.out).mono ?_
  rintro e w1 ⟨rfl, hw1⟩
  rw [hw1]
  clear hw1
  go_wp2_with fail
  go_ret
  exact ⟨rfl, rfl⟩
theorem prog13_high (h : NdB w ab A bb bc db pb fa fc L O) (hoff : A.off = false) {d n : Nat} {p : Int} (v : Value) (hd : d < A.S.dies) (hn : n < A.S.blocks) (hp0 : 0 ≤ p) (hp : (A.S.pages : Int) ≤ p) : Calls Try.prog 13 #[.pointer (some ⟨ab, 0, none⟩), .int .i64 (d : Nat), .int .i64 (n : Nat), .int .i64 p, v] w fun e w' => e = .returned (.int .i64 1) ∧ w' = w := by
  have hAt := Lib.hid (at_in h hd hn)
  have c6 := h.cell 6
  have c2 := h.cell 2
  simp only [ndCells, List.getElem?_toArray, List.getElem?_cons_zero, List.getElem?_cons_succ] at c6 c2
  rw [hoff] at c6
  clear h hoff hd hn
  go_enter Try.func13, Try.ntmps13
  go_wp2_with fail
  refine (hAt.out).mono ?_
  rintro e w1 ⟨rfl, hw1⟩
  rw [hw1]
  clear hw1
  go_wp2_with fail
  go_ret
  exact ⟨rfl, rfl⟩
theorem prog13_len (h : NdB w ab A bb bc db pb fa fc L O) (hoff : A.off = false) {d n p m xc : Nat} {xa : Option Addr} (hd : d < A.S.dies) (hn : n < A.S.blocks) (hp : p < A.S.pages) (hm : ¬ m = A.S.bytes) : Calls Try.prog 13 #[.pointer (some ⟨ab, 0, none⟩), .int .i64 (d : Nat), .int .i64 (n : Nat), .int .i64 (p : Nat), .slice xa m xc] w fun e w' => e = .returned (.int .i64 1) ∧ w' = w := by
  have hAt := Lib.hid (at_in h hd hn)
  have c6 := h.cell 6
  have c2 := h.cell 2
  have c3 := h.cell 3
  simp only [ndCells, List.getElem?_toArray, List.getElem?_cons_zero, List.getElem?_cons_succ] at c6 c2 c3
  rw [hoff] at c6
  obtain ⟨z, hz⟩ : ∃ z : Int, ((A.S.bytes : Nat) : Int) = z := ⟨_, rfl⟩
  rw [hz] at c3
  have e1 : ((m : Int) != z) = true := by simp only [bne_iff_ne, ne_eq]; omega
  have e2 : ((m : Int) == z) = false := by simp only [beq_eq_false_iff_ne, ne_eq]; omega
  clear h hoff hd hn hm hz
  go_enter Try.func13, Try.ntmps13
  go_wp2_with fail
  refine (hAt.out).mono ?_
  rintro e w1 ⟨rfl, hw1⟩
  rw [hw1]
  clear hw1
  go_wp2_with fail
  go_ret
  exact ⟨rfl, rfl⟩
end Go.Proofs.Ytglpacdenfoicaa
