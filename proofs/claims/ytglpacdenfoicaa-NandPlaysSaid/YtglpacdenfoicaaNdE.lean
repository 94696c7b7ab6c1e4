/- nand: struck -/
import Derived.Test.YtglpacdenfoicaaNdD
namespace Go.Proofs.Ytglpacdenfoicaa
open Go.RowKit

theorem enter71 (args : Array Value) (w : World) : (callFunc 71 args).run Try.prog w = .ok (.enter 71 args) w := by kernel_rfl
theorem enter58 (args : Array Value) (w : World) : (callFunc 58 args).run Try.prog w = .ok (.enter 58 args) w := by kernel_rfl
theorem heap_new_at {w : World} {o : Obj} {n : Nat} (h : w.heap.size = n) : (w.alloc o).heap[n]? = some o := by subst h; exact heap_alloc_new w o
set_option maxHeartbeats 2000000 in
set_option maxRecDepth 100000 in
theorem contains70 {fp : FuncId} {caps : Array Value} {p : Ft → Bool} {w : World} {fa : Option Addr} {fc : Nat} {L : List Fx} (hen : ∀ args w, (callFunc fp args).run Try.prog w = .ok (.enter fp args) w) (hL : RecRow encX 9 w 78 fa fc L) (hm : L.length ≤ 100000)
    (hP : ∀ x ∈ L, ∀ W, Keeps Nil w W → Calls Try.prog fp (#[.agg #[.int .i64 x.f.kind, .int .i64 x.f.time, .int .i64 x.f.die, .int .i64 x.f.block, .int .i64 x.f.page, .int .i64 x.f.times, .int .i64 x.f.part, .slice x.a x.f.bits.length x.c, .int .i64 (x.f.left : Nat)]] ++ caps) W
      fun e w' => e = .returned (.bool (p x.f)) ∧ Keeps Nil W w') :
    Calls Try.prog 70 #[.slice fa L.length fc, .func (.func fp) #[] caps] w fun e w' => e = .returned (.bool ((L.map (·.f)).any p)) ∧ Keeps Nil w w' := by
  have hC := Lib.hid (index57 hen hL hm hP)
  obtain ⟨i, hi⟩ : ∃ i, firstF p (L.map (·.f)) 0 = i := ⟨_, rfl⟩
  have ha := firstF_any (p := p) (L := L.map (·.f)) (k := 0)
  rw [hi] at hC ha
  rw [← ha]
  clear hL hm hP hen hi ha
  go_enter Try.func70, Try.ntmps70
  go_wp2_with fail
  refine (hC.out).mono ?_
  rintro e w1 ⟨rfl, k1⟩
  have k1' := Lib.hid k1
  clear k1
  go_wp2_with fail
  go_ret
  exact ⟨rfl, k1'.out⟩
variable {w w' : World} {ab bb bc fc : Nat} {db : Nat → Nat} {pb : Nat → Nat → Nat} {fa : Option Addr} {L : List Fx} {A A' : Nd} {O T : Nat → Prop}
set_option maxHeartbeats 2000000 in
set_option maxRecDepth 100000 in
theorem struck56 (h : NdB w ab A bb bc db pb fa fc L O) (hlen : A.F.length ≤ 2000) (op kind die n : Int) :
    Calls Try.prog 56 #[.pointer (some ⟨ab, 0, none⟩), .int .i64 op, .int .i64 kind, .int .i64 die, .int .i64 n] w fun e w' => e = .returned (.bool (A.struck op kind die n)) ∧ Keeps Nil w w' := by
  have hmf : ∀ (fn : Fn) (first cap : Array Value) (w : World), (Instr.makeFunc fn first cap).run Try.prog w = .ok (.func fn first cap) w := fun _ _ _ _ => rfl
  have hk := Lib.hid (((((Keeps.refl Nil w).alloc (.cells #[.int .i64 op] 3)).alloc (.cells #[.int .i64 kind] 3)).alloc (.cells #[.int .i64 die] 3)).alloc (.cells #[.int .i64 n] 3))
  have h' := h.keeps hk.out (fun _ _ h => h)
  have c5 := h'.cell 5
  simp only [ndCells, List.getElem?_toArray, List.getElem?_cons_zero, List.getElem?_cons_succ] at c5
  have hll : L.length ≤ 100000 := by have := h.fls; rw [← this] at hlen; simp at hlen; omega
  have c0 : ((((w.alloc (.cells #[.int .i64 op] 3)).alloc (.cells #[.int .i64 kind] 3)).alloc (.cells #[.int .i64 die] 3)).alloc (.cells #[.int .i64 n] 3)).cell? ⟨w.heap.size, 0, none⟩ = some (.int .i64 op) := cell_of_heap (heap_alloc_old (heap_alloc_old (heap_alloc_old (heap_alloc_new w _)))) 0
  have c1 : ((((w.alloc (.cells #[.int .i64 op] 3)).alloc (.cells #[.int .i64 kind] 3)).alloc (.cells #[.int .i64 die] 3)).alloc (.cells #[.int .i64 n] 3)).cell? ⟨w.heap.size + 1, 0, none⟩ = some (.int .i64 kind) := cell_of_heap (heap_alloc_old (heap_alloc_old (heap_new_at (by simp)))) 0
  have c2 : ((((w.alloc (.cells #[.int .i64 op] 3)).alloc (.cells #[.int .i64 kind] 3)).alloc (.cells #[.int .i64 die] 3)).alloc (.cells #[.int .i64 n] 3)).cell? ⟨w.heap.size + 2, 0, none⟩ = some (.int .i64 die) := cell_of_heap (heap_alloc_old (heap_new_at (by simp))) 0
  have c3 : ((((w.alloc (.cells #[.int .i64 op] 3)).alloc (.cells #[.int .i64 kind] 3)).alloc (.cells #[.int .i64 die] 3)).alloc (.cells #[.int .i64 n] 3)).cell? ⟨w.heap.size + 3, 0, none⟩ = some (.int .i64 n) := cell_of_heap (heap_new_at (by simp)) 0
  have hC := Lib.hid (contains70 (p := (·.hits op kind die n)) (caps := #[.pointer (some ⟨w.heap.size + 1, 0, none⟩), .pointer (some ⟨w.heap.size, 0, none⟩), .pointer (some ⟨w.heap.size + 2, 0, none⟩), .pointer (some ⟨w.heap.size + 3, 0, none⟩)]) enter71 h'.fts hll (fun x hx W hW => struck71 x (hW.cell c1 (fun h => h)) (hW.cell c0 (fun h => h)) (hW.cell c2 (fun h => h)) (hW.cell c3 (fun h => h))))
  rw [h.fls] at hC
  rw [show A.F.any (·.hits op kind die n) = A.struck op kind die n from rfl] at hC
  clear h h' c0 c1 c2 c3 hlen
  go_enter Try.func56, Try.ntmps56
  go_wp2_with fail
  refine (hC.out).mono ?_
  rintro e w1 ⟨rfl, k1⟩
  have k1' := Lib.hid k1
  clear k1
  go_wp2_with fail
  go_ret
  exact ⟨rfl, hk.out.trans k1'.out⟩
end Go.Proofs.Ytglpacdenfoicaa
