/- nand: may a fault be? (printed by Nd/mkNeB.py) -/
import Derived.Test.YtglpacdenfoicaaNeA
namespace Go.Proofs.Ytglpacdenfoicaa
open Go.RowKit

def fCells (x : Fx) : Array Value := #[.int .i64 x.f.kind, .int .i64 x.f.time, .int .i64 x.f.die, .int .i64 x.f.block, .int .i64 x.f.page, .int .i64 x.f.times, .int .i64 x.f.part, .slice x.a x.f.bits.length x.c]
def shCells (S : Sh) : Array Value := #[.int .i64 (S.dies : Nat), .int .i64 (S.blocks : Nat), .int .i64 (S.pages : Nat), .int .i64 (S.bytes : Nat)]
structure Ft.In (S : Sh) (f : Ft) : Prop where
  k1 : 1 ≤ f.kind
  k2 : f.kind ≤ 6
  t1 : 0 ≤ f.time
  t2 : 0 ≤ f.times
  p1 : 0 ≤ f.part
  d1 : 0 ≤ f.die
  d2 : f.die < (S.dies : Int)
  b1 : 0 ≤ f.block
  b2 : f.block < (S.blocks : Int)
  g1 : 0 ≤ f.page
  g2 : f.page < (S.pages : Int)
instance (S : Sh) (f : Ft) : Decidable (f.In S) :=
  if h : 1 ≤ f.kind ∧ f.kind ≤ 6 ∧ 0 ≤ f.time ∧ 0 ≤ f.times ∧ 0 ≤ f.part ∧ 0 ≤ f.die ∧ f.die < (S.dies : Int) ∧ 0 ≤ f.block ∧ f.block < (S.blocks : Int) ∧ 0 ≤ f.page ∧ f.page < (S.pages : Int) then isTrue ⟨h.1, h.2.1, h.2.2.1, h.2.2.2.1, h.2.2.2.2.1, h.2.2.2.2.2.1, h.2.2.2.2.2.2.1, h.2.2.2.2.2.2.2.1, h.2.2.2.2.2.2.2.2.1, h.2.2.2.2.2.2.2.2.2.1, h.2.2.2.2.2.2.2.2.2.2⟩ else isFalse (fun e => h ⟨e.k1, e.k2, e.t1, e.t2, e.p1, e.d1, e.d2, e.b1, e.b2, e.g1, e.g2⟩)
def Ft.may (S : Sh) (f : Ft) : Bool := decide (f.In S) && !(f.bits.any (outB S.bytes))
variable {w w' : World}
set_option maxHeartbeats 2000000 in
set_option maxRecDepth 100000 in
theorem may26_f0 (S : Sh) (x : Fx)  (hno : ¬ (1 ≤ x.f.kind)) (w : World) : Calls Try.prog 26 #[.agg #[.int .i64 (S.dies : Nat), .int .i64 (S.blocks : Nat), .int .i64 (S.pages : Nat), .int .i64 (S.bytes : Nat)], .agg #[.int .i64 x.f.kind, .int .i64 x.f.time, .int .i64 x.f.die, .int .i64 x.f.block, .int .i64 x.f.page, .int .i64 x.f.times, .int .i64 x.f.part, .slice x.a x.f.bits.length x.c]] w fun e w' => e = .returned (.bool false) ∧ Keeps Nil w w' := by
  have hk := Lib.hid (((Keeps.refl Nil w).alloc (.cells (shCells S) 31)).alloc (.cells (fCells x) 33))
  go_enter Try.func26, Try.ntmps26
  go_wp2_with fail
  go_ret
  exact ⟨rfl, hk.out⟩
set_option maxHeartbeats 2000000 in
set_option maxRecDepth 100000 in
theorem may26_f1 (S : Sh) (x : Fx) (k1 : 1 ≤ x.f.kind) (hno : ¬ (x.f.kind ≤ 6)) (w : World) : Calls Try.prog 26 #[.agg #[.int .i64 (S.dies : Nat), .int .i64 (S.blocks : Nat), .int .i64 (S.pages : Nat), .int .i64 (S.bytes : Nat)], .agg #[.int .i64 x.f.kind, .int .i64 x.f.time, .int .i64 x.f.die, .int .i64 x.f.block, .int .i64 x.f.page, .int .i64 x.f.times, .int .i64 x.f.part, .slice x.a x.f.bits.length x.c]] w fun e w' => e = .returned (.bool false) ∧ Keeps Nil w w' := by
  have hk := Lib.hid (((Keeps.refl Nil w).alloc (.cells (shCells S) 31)).alloc (.cells (fCells x) 33))
  go_enter Try.func26, Try.ntmps26
  go_wp2_with fail
  go_ret
  exact ⟨rfl, hk.out⟩
set_option maxHeartbeats 2000000 in
set_option maxRecDepth 100000 in
theorem may26_f2 (S : Sh) (x : Fx) (k1 : 1 ≤ x.f.kind) (k2 : x.f.kind ≤ 6) (hno : ¬ (0 ≤ x.f.time)) (w : World) : Calls Try.prog 26 #[.agg #[.int .i64 (S.dies : Nat), .int .i64 (S.blocks : Nat), .int .i64 (S.pages : Nat), .int .i64 (S.bytes : Nat)], .agg #[.int .i64 x.f.kind, .int .i64 x.f.time, .int .i64 x.f.die, .int .i64 x.f.block, .int .i64 x.f.page, .int .i64 x.f.times, .int .i64 x.f.part, .slice x.a x.f.bits.length x.c]] w fun e w' => e = .returned (.bool false) ∧ Keeps Nil w w' := by
  have hk := Lib.hid (((Keeps.refl Nil w).alloc (.cells (shCells S) 31)).alloc (.cells (fCells x) 33))
  go_enter Try.func26, Try.ntmps26
  go_wp2_with fail
  go_ret
  exact ⟨rfl, hk.out⟩
set_option maxHeartbeats 2000000 in
set_option maxRecDepth 100000 in
theorem may26_f3 (S : Sh) (x : Fx) (k1 : 1 ≤ x.f.kind) (k2 : x.f.kind ≤ 6) (t1 : 0 ≤ x.f.time) (hno : ¬ (0 ≤ x.f.times)) (w : World) : Calls Try.prog 26 #[.agg #[.int .i64 (S.dies : Nat), .int .i64 (S.blocks : Nat), .int .i64 (S.pages : Nat), .int .i64 (S.bytes : Nat)], .agg #[.int .i64 x.f.kind, .int .i64 x.f.time, .int .i64 x.f.die, .int .i64 x.f.block, .int .i64 x.f.page, .int .i64 x.f.times, .int .i64 x.f.part, .slice x.a x.f.bits.length x.c]] w fun e w' => e = .returned (.bool false) ∧ Keeps Nil w w' := by
  have hk := Lib.hid (((Keeps.refl Nil w).alloc (.cells (shCells S) 31)).alloc (.cells (fCells x) 33))
  go_enter Try.func26, Try.ntmps26
  go_wp2_with fail
  go_ret
  exact ⟨rfl, hk.out⟩
set_option maxHeartbeats 2000000 in
set_option maxRecDepth 100000 in
theorem may26_f4 (S : Sh) (x : Fx) (k1 : 1 ≤ x.f.kind) (k2 : x.f.kind ≤ 6) (t1 : 0 ≤ x.f.time) (t2 : 0 ≤ x.f.times) (hno : ¬ (0 ≤ x.f.part)) (w : World) : Calls Try.prog 26 #[.agg #[.int .i64 (S.dies : Nat), .int .i64 (S.blocks : Nat), .int .i64 (S.pages : Nat), .int .i64 (S.bytes : Nat)], .agg #[.int .i64 x.f.kind, .int .i64 x.f.time, .int .i64 x.f.die, .int .i64 x.f.block, .int .i64 x.f.page, .int .i64 x.f.times, .int .i64 x.f.part, .slice x.a x.f.bits.length x.c]] w fun e w' => e = .returned (.bool false) ∧ Keeps Nil w w' := by
  have hk := Lib.hid (((Keeps.refl Nil w).alloc (.cells (shCells S) 31)).alloc (.cells (fCells x) 33))
  go_enter Try.func26, Try.ntmps26
  go_wp2_with fail
  go_ret
  exact ⟨rfl, hk.out⟩
set_option maxHeartbeats 2000000 in
set_option maxRecDepth 100000 in
theorem may26_f5 (S : Sh) (x : Fx) (k1 : 1 ≤ x.f.kind) (k2 : x.f.kind ≤ 6) (t1 : 0 ≤ x.f.time) (t2 : 0 ≤ x.f.times) (p1 : 0 ≤ x.f.part) (hno : ¬ (0 ≤ x.f.die)) (w : World) : Calls Try.prog 26 #[.agg #[.int .i64 (S.dies : Nat), .int .i64 (S.blocks : Nat), .int .i64 (S.pages : Nat), .int .i64 (S.bytes : Nat)], .agg #[.int .i64 x.f.kind, .int .i64 x.f.time, .int .i64 x.f.die, .int .i64 x.f.block, .int .i64 x.f.page, .int .i64 x.f.times, .int .i64 x.f.part, .slice x.a x.f.bits.length x.c]] w fun e w' => e = .returned (.bool false) ∧ Keeps Nil w w' := by
  have hk := Lib.hid (((Keeps.refl Nil w).alloc (.cells (shCells S) 31)).alloc (.cells (fCells x) 33))
  go_enter Try.func26, Try.ntmps26
  go_wp2_with fail
  go_ret
  exact ⟨rfl, hk.out⟩
set_option maxHeartbeats 2000000 in
set_option maxRecDepth 100000 in
theorem may26_f6 (S : Sh) (x : Fx) (k1 : 1 ≤ x.f.kind) (k2 : x.f.kind ≤ 6) (t1 : 0 ≤ x.f.time) (t2 : 0 ≤ x.f.times) (p1 : 0 ≤ x.f.part) (d1 : 0 ≤ x.f.die) (hno : ¬ (x.f.die < (S.dies : Int))) (w : World) : Calls Try.prog 26 #[.agg #[.int .i64 (S.dies : Nat), .int .i64 (S.blocks : Nat), .int .i64 (S.pages : Nat), .int .i64 (S.bytes : Nat)], .agg #[.int .i64 x.f.kind, .int .i64 x.f.time, .int .i64 x.f.die, .int .i64 x.f.block, .int .i64 x.f.page, .int .i64 x.f.times, .int .i64 x.f.part, .slice x.a x.f.bits.length x.c]] w fun e w' => e = .returned (.bool false) ∧ Keeps Nil w w' := by
  have hk := Lib.hid (((Keeps.refl Nil w).alloc (.cells (shCells S) 31)).alloc (.cells (fCells x) 33))
  go_enter Try.func26, Try.ntmps26
  go_wp2_with fail
  go_ret
  exact ⟨rfl, hk.out⟩
set_option maxHeartbeats 2000000 in
set_option maxRecDepth 100000 in
theorem may26_f7 (S : Sh) (x : Fx) (k1 : 1 ≤ x.f.kind) (k2 : x.f.kind ≤ 6) (t1 : 0 ≤ x.f.time) (t2 : 0 ≤ x.f.times) (p1 : 0 ≤ x.f.part) (d1 : 0 ≤ x.f.die) (d2 : x.f.die < (S.dies : Int)) (hno : ¬ (0 ≤ x.f.block)) (w : World) : Calls Try.prog 26 #[.agg #[.int .i64 (S.dies : Nat), .int .i64 (S.blocks : Nat), .int .i64 (S.pages : Nat), .int .i64 (S.bytes : Nat)], .agg #[.int .i64 x.f.kind, .int .i64 x.f.time, .int .i64 x.f.die, .int .i64 x.f.block, .int .i64 x.f.page, .int .i64 x.f.times, .int .i64 x.f.part, .slice x.a x.f.bits.length x.c]] w fun e w' => e = .returned (.bool false) ∧ Keeps Nil w w' := by
  have hk := Lib.hid (((Keeps.refl Nil w).alloc (.cells (shCells S) 31)).alloc (.cells (fCells x) 33))
  go_enter Try.func26, Try.ntmps26
  go_wp2_with fail
  go_ret
  exact ⟨rfl, hk.out⟩
set_option maxHeartbeats 2000000 in
set_option maxRecDepth 100000 in
theorem may26_f8 (S : Sh) (x : Fx) (k1 : 1 ≤ x.f.kind) (k2 : x.f.kind ≤ 6) (t1 : 0 ≤ x.f.time) (t2 : 0 ≤ x.f.times) (p1 : 0 ≤ x.f.part) (d1 : 0 ≤ x.f.die) (d2 : x.f.die < (S.dies : Int)) (b1 : 0 ≤ x.f.block) (hno : ¬ (x.f.block < (S.blocks : Int))) (w : World) : Calls Try.prog 26 #[.agg #[.int .i64 (S.dies : Nat), .int .i64 (S.blocks : Nat), .int .i64 (S.pages : Nat), .int .i64 (S.bytes : Nat)], .agg #[.int .i64 x.f.kind, .int .i64 x.f.time, .int .i64 x.f.die, .int .i64 x.f.block, .int .i64 x.f.page, .int .i64 x.f.times, .int .i64 x.f.part, .slice x.a x.f.bits.length x.c]] w fun e w' => e = .returned (.bool false) ∧ Keeps Nil w w' := by
  have hk := Lib.hid (((Keeps.refl Nil w).alloc (.cells (shCells S) 31)).alloc (.cells (fCells x) 33))
  go_enter Try.func26, Try.ntmps26
  go_wp2_with fail
  go_ret
  exact ⟨rfl, hk.out⟩
set_option maxHeartbeats 2000000 in
set_option maxRecDepth 100000 in
theorem may26_f9 (S : Sh) (x : Fx) (k1 : 1 ≤ x.f.kind) (k2 : x.f.kind ≤ 6) (t1 : 0 ≤ x.f.time) (t2 : 0 ≤ x.f.times) (p1 : 0 ≤ x.f.part) (d1 : 0 ≤ x.f.die) (d2 : x.f.die < (S.dies : Int)) (b1 : 0 ≤ x.f.block) (b2 : x.f.block < (S.blocks : Int)) (hno : ¬ (0 ≤ x.f.page)) (w : World) : Calls Try.prog 26 #[.agg #[.int .i64 (S.dies : Nat), .int .i64 (S.blocks : Nat), .int .i64 (S.pages : Nat), .int .i64 (S.bytes : Nat)], .agg #[.int .i64 x.f.kind, .int .i64 x.f.time, .int .i64 x.f.die, .int .i64 x.f.block, .int .i64 x.f.page, .int .i64 x.f.times, .int .i64 x.f.part, .slice x.a x.f.bits.length x.c]] w fun e w' => e = .returned (.bool false) ∧ Keeps Nil w w' := by
  have hk := Lib.hid (((Keeps.refl Nil w).alloc (.cells (shCells S) 31)).alloc (.cells (fCells x) 33))
  go_enter Try.func26, Try.ntmps26
  go_wp2_with fail
  go_ret
  exact ⟨rfl, hk.out⟩
set_option maxHeartbeats 2000000 in
set_option maxRecDepth 100000 in
theorem may26_f10 (S : Sh) (x : Fx) (k1 : 1 ≤ x.f.kind) (k2 : x.f.kind ≤ 6) (t1 : 0 ≤ x.f.time) (t2 : 0 ≤ x.f.times) (p1 : 0 ≤ x.f.part) (d1 : 0 ≤ x.f.die) (d2 : x.f.die < (S.dies : Int)) (b1 : 0 ≤ x.f.block) (b2 : x.f.block < (S.blocks : Int)) (g1 : 0 ≤ x.f.page) (hno : ¬ (x.f.page < (S.pages : Int))) (w : World) : Calls Try.prog 26 #[.agg #[.int .i64 (S.dies : Nat), .int .i64 (S.blocks : Nat), .int .i64 (S.pages : Nat), .int .i64 (S.bytes : Nat)], .agg #[.int .i64 x.f.kind, .int .i64 x.f.time, .int .i64 x.f.die, .int .i64 x.f.block, .int .i64 x.f.page, .int .i64 x.f.times, .int .i64 x.f.part, .slice x.a x.f.bits.length x.c]] w fun e w' => e = .returned (.bool false) ∧ Keeps Nil w w' := by
  have hk := Lib.hid (((Keeps.refl Nil w).alloc (.cells (shCells S) 31)).alloc (.cells (fCells x) 33))
  go_enter Try.func26, Try.ntmps26
  go_wp2_with fail
  go_ret
  exact ⟨rfl, hk.out⟩
set_option maxHeartbeats 4000000 in
set_option maxRecDepth 100000 in
theorem may26_in (S : Sh) (x : Fx) (h : x.f.In S) (hS : S.bytes ≤ 4096) (hm : x.f.bits.length ≤ 140737488351232) (w : World) (hb : NumsAt .i64 w x.a x.f.bits) : Calls Try.prog 26 #[.agg #[.int .i64 (S.dies : Nat), .int .i64 (S.blocks : Nat), .int .i64 (S.pages : Nat), .int .i64 (S.bytes : Nat)], .agg #[.int .i64 x.f.kind, .int .i64 x.f.time, .int .i64 x.f.die, .int .i64 x.f.block, .int .i64 x.f.page, .int .i64 x.f.times, .int .i64 x.f.part, .slice x.a x.f.bits.length x.c]] w fun e w' => e = .returned (.bool (!(x.f.bits.any (outB S.bytes)))) ∧ Keeps Nil w w' := by
  have hmf : ∀ (fn : Fn) (first cap : Array Value) (w : World), (Instr.makeFunc fn first cap).run Try.prog w = .ok (.func fn first cap) w := fun _ _ _ _ => rfl
  have k0 := ((Keeps.refl Nil w).alloc (.cells (shCells S) 31)).alloc (.cells (fCells x) 33)
  have hk := Lib.hid k0
  have hc : ((w.alloc (.cells (shCells S) 31)).alloc (.cells (fCells x) 33)).cell? ⟨w.heap.size, 3, none⟩ = some (.int .i64 (S.bytes : Nat)) := cell_of_heap (heap_alloc_old (heap_alloc_new w _)) 3
  have hC := Lib.hid (contains54 (p := outB S.bytes) (c := x.c) (caps := #[.pointer (some ⟨w.heap.size, 0, none⟩)]) enter55 (hb.keeps k0 (fun _ _ h => h)) hm (fun k _ W hW => out55 hS (hW.cell hc (fun h => h))))
  clear k0 hc hb
  obtain ⟨b, hb⟩ : ∃ b, x.f.bits.any (outB S.bytes) = b := ⟨_, rfl⟩
  rw [hb] at hC ⊢
  clear hb hm hS
  obtain ⟨k1, k2, t1, t2, p1, d1, d2, b1, b2, g1, g2⟩ := h
  go_enter Try.func26, Try.ntmps26
  go_wp2_with fail
  refine (hC.out).mono ?_
  rintro e w1 ⟨rfl, k1⟩
  have k1' := Lib.hid k1
  clear k1
  go_wp2_with fail
  go_ret
  exact ⟨rfl, hk.out.trans k1'.out⟩
theorem may26 (S : Sh) (x : Fx) (hS : S.bytes ≤ 4096) (hm : x.f.bits.length ≤ 140737488351232) (w : World) (hb : NumsAt .i64 w x.a x.f.bits) : Calls Try.prog 26 #[.agg #[.int .i64 (S.dies : Nat), .int .i64 (S.blocks : Nat), .int .i64 (S.pages : Nat), .int .i64 (S.bytes : Nat)], .agg #[.int .i64 x.f.kind, .int .i64 x.f.time, .int .i64 x.f.die, .int .i64 x.f.block, .int .i64 x.f.page, .int .i64 x.f.times, .int .i64 x.f.part, .slice x.a x.f.bits.length x.c]] w fun e w' => e = .returned (.bool (x.f.may S)) ∧ Keeps Nil w w' := by
  by_cases h : x.f.In S
  · have hr : x.f.may S = !(x.f.bits.any (outB S.bytes)) := by unfold Ft.may; simp [h]
    rw [hr]
    exact may26_in S x h hS hm w hb
  · have hr : x.f.may S = false := by unfold Ft.may; simp [h]
    rw [hr]
    by_cases k1 : 1 ≤ x.f.kind
    rotate_left
    · exact may26_f0 S x k1 w
    by_cases k2 : x.f.kind ≤ 6
    rotate_left
    · exact may26_f1 S x k1 k2 w
    by_cases t1 : 0 ≤ x.f.time
    rotate_left
    · exact may26_f2 S x k1 k2 t1 w
    by_cases t2 : 0 ≤ x.f.times
    rotate_left
    · exact may26_f3 S x k1 k2 t1 t2 w
    by_cases p1 : 0 ≤ x.f.part
    rotate_left
    · exact may26_f4 S x k1 k2 t1 t2 p1 w
    by_cases d1 : 0 ≤ x.f.die
    rotate_left
    · exact may26_f5 S x k1 k2 t1 t2 p1 d1 w
    by_cases d2 : x.f.die < (S.dies : Int)
    rotate_left
    · exact may26_f6 S x k1 k2 t1 t2 p1 d1 d2 w
    by_cases b1 : 0 ≤ x.f.block
    rotate_left
    · exact may26_f7 S x k1 k2 t1 t2 p1 d1 d2 b1 w
    by_cases b2 : x.f.block < (S.blocks : Int)
    rotate_left
    · exact may26_f8 S x k1 k2 t1 t2 p1 d1 d2 b1 b2 w
    by_cases g1 : 0 ≤ x.f.page
    rotate_left
    · exact may26_f9 S x k1 k2 t1 t2 p1 d1 d2 b1 b2 g1 w
    by_cases g2 : x.f.page < (S.pages : Int)
    rotate_left
    · exact may26_f10 S x k1 k2 t1 t2 p1 d1 d2 b1 b2 g1 g2 w
    exact absurd ⟨k1, k2, t1, t2, p1, d1, d2, b1, b2, g1, g2⟩ h
end Go.Proofs.Ytglpacdenfoicaa
