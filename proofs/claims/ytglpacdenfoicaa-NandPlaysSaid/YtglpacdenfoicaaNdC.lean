/- nand: atomic counters; a block's place; clones of rows -/
import Derived.Test.YtglpacdenfoicaaNdB
import Derived.Test.YtglpacdenfoicaaRows
import Derived.Outline
import Derived.Deep.DeepMust
import Derived.Laws.LoneSync
namespace Go.Proofs.Ytglpacdenfoicaa
open Go.RowKit

theorem Try.info5n : (Try.prog.info? 5).map (fun i => (i.zero, i.size, i.bytes)) = some (some (.int .u8 0), 1, 1) := by kernel_rfl
theorem Try.info3n : (Try.prog.info? 3).map (fun i => (i.zero, i.size, i.bytes)) = some (some (.int .i64 0), 1, 8) := by kernel_rfl

set_option maxHeartbeats 400000 in
/-- an atomic counter goes up by one -/
theorem add34 {w : World} {b o : Nat} {x s : Int} (hc : w.cell? ⟨b, o, none⟩ = some (.int .i64 x)) (hz : w.frozen? ⟨b, o, none⟩ = false) (hs : wrap64 (x + 1) = s) :
    Calls Try.prog 34 #[.pointer (some ⟨b, o, none⟩), .int .i64 1] w fun e w' => e = .returned (.int .i64 s) ∧ w' = w.setCell ⟨b, o, none⟩ (.int .i64 s) := by
  have hadd := run_call_add (P := Try.prog) Try.func62 (by kernel_rfl) (by kernel_rfl) (by kernel_rfl) .i64 (by kernel_rfl) (y := 1) (s := s) hc hz (by rw [← hs]; simp [go_sem, wrap64, IntKind.wrap_i64])
  clear hs
  go_enter Try.func34, Try.ntmps34
  go_wp2_with fail
  go_ret
  exact ⟨rfl, rfl⟩
set_option maxHeartbeats 400000 in
theorem load37 {w : World} {b o : Nat} {x : Int} (hc : w.cell? ⟨b, o, none⟩ = some (.int .i64 x)) :
    Calls Try.prog 37 #[.pointer (some ⟨b, o, none⟩)] w fun e w' => e = .returned (.int .i64 x) ∧ w' = w := by
  have hl := run_call_load (P := Try.prog) Try.func63 (by kernel_rfl) (by kernel_rfl) (by kernel_rfl) .i64 (by kernel_rfl) hc
  go_enter Try.func37, Try.ntmps37
  go_wp2_with fail
  go_ret
  exact ⟨rfl, rfl⟩

/-- slices.Clone of bytes -/
theorem clone60 {w : World} {a : Option Addr} {cap : Nat} {xs : List Int} (hx : NumsAt .u8 w a xs) (hn : a = none → cap = 0 ∧ xs.length = 0) (hm : xs.length ≤ 140737488351232) :
    Calls Try.prog 60 #[.slice a xs.length cap] w fun e w' => ∃ a' cap', e = .returned (.slice a' xs.length cap') ∧ NumRow .u8 w' 5 a' cap' xs ∧ Keeps Nil w w' ∧ (∀ g, blk a' = some g → w.heap.size ≤ g) ∧ (a = none ↔ a' = none) := by
  obtain ⟨i0, hi, hz0, hz1, hz2⟩ := info_parts Try.info5n
  have hnil := fun (w : World) a n c => Lib.run_eql_slice_nil (P := Try.prog) w 22 5 a n c 0 0 Try.underlying22
  have hs := hx.src (fun h => (hn h).2)
  have hs' := Lib.hid hs
  have hn' := Lib.hid hn
  clear hs hx hn
  cases a with
  | none =>
    obtain ⟨hc, hl⟩ := hn'.out rfl
    have hx0 : xs = [] := List.eq_nil_of_length_eq_zero hl
    subst hx0
    subst hc
    go_enter Try.func60, Try.ntmps60
    go_wp2
    go_ret
    exact ⟨none, 0, rfl, RowAt.nil _ _ _, Keeps.refl _ _, (fun g h => by cases h), rfl⟩
  | some ad =>
    go_enter Try.func60, Try.ntmps60
    go_wp2_with (at_builtin; refine wpList_app _ rfl _ _ 22 rfl 5 i0 (.int .u8 0) 1 1 Try.underlying22 hi hz0 hz1 hz2 rfl (by decide) _ 0 0 [] rfl _ xs.length _ (xs.map (.int .u8)) rfl ?_ ?c1 ?c2 ?c3 ?c4 ?c5 ?c6; intro a' cap' w1 hr hk hb)
    case c1 => exact ⟨rfl, .inr ⟨w.heap.size, 0, #[], rfl, Nat.zero_le _, heap_alloc_new _ _, Nat.le_refl _, Nat.zero_le _, rfl, rfl⟩⟩
    case c2 => exact (hs'.out.keeps ((Keeps.refl Nil _).alloc _))
    case c3 => simp
    case c4 => simp [Value.oneCell']
    case c5 => simp [maxLen]; omega
    case c6 => simp; omega
    go_ret
    refine ⟨a', cap', by simp, by unfold NumRow; simpa using hr, ?_, ?_, ?_⟩
    · exact ((Keeps.refl Nil w).alloc _).trans' hk (fun j hj => by simp [blk] at hj; omega)
    · intro g hg
      rcases hb with hb | ⟨hb, _⟩
      · rw [hb] at hg; simp [blk] at hg; omega
      · rw [hb] at hg; simp at hg; omega
    · constructor
      · intro h; cases h
      · intro h; subst h; rcases hb with hb | ⟨hb, _⟩ <;> simp [blk] at hb
/-- slices.Clone of numbers -/
theorem clone27 {w : World} {a : Option Addr} {cap : Nat} {xs : List Int} (hx : NumsAt .i64 w a xs) (hn : a = none → cap = 0 ∧ xs.length = 0) (hm : xs.length * 8 ≤ 140737488351232) :
    Calls Try.prog 27 #[.slice a xs.length cap] w fun e w' => ∃ a' cap', e = .returned (.slice a' xs.length cap') ∧ NumRow .i64 w' 3 a' cap' xs ∧ Keeps Nil w w' ∧ (∀ g, blk a' = some g → w.heap.size ≤ g) := by
  obtain ⟨i0, hi, hz0, hz1, hz2⟩ := info_parts Try.info3n
  have hnil := fun (w : World) a n c => Lib.run_eql_slice_nil (P := Try.prog) w 23 3 a n c 0 0 Try.underlying23
  have hs := hx.src (fun h => (hn h).2)
  have hs' := Lib.hid hs
  have hn' := Lib.hid hn
  clear hs hx hn
  cases a with
  | none =>
    obtain ⟨hc, hl⟩ := hn'.out rfl
    have hx0 : xs = [] := List.eq_nil_of_length_eq_zero hl
    subst hx0
    subst hc
    go_enter Try.func27, Try.ntmps27
    go_wp2
    go_ret
    exact ⟨none, 0, rfl, RowAt.nil _ _ _, Keeps.refl _ _, (fun g h => by cases h)⟩
  | some ad =>
    go_enter Try.func27, Try.ntmps27
    go_wp2_with (at_builtin; refine wpList_app _ rfl _ _ 23 rfl 3 i0 (.int .i64 0) 1 8 Try.underlying23 hi hz0 hz1 hz2 rfl (by decide) _ 0 0 [] rfl _ xs.length _ (xs.map (.int .i64)) rfl ?_ ?c1 ?c2 ?c3 ?c4 ?c5 ?c6; intro a' cap' w1 hr hk hb)
    case c1 => exact ⟨rfl, .inr ⟨w.heap.size, 0, #[], rfl, Nat.zero_le _, heap_alloc_new _ _, Nat.le_refl _, Nat.zero_le _, rfl, rfl⟩⟩
    case c2 => exact (hs'.out.keeps ((Keeps.refl Nil _).alloc _))
    case c3 => simp
    case c4 => simp [Value.oneCell']
    case c5 => simp [maxLen]; omega
    case c6 => simp; omega
    go_ret
    refine ⟨a', cap', by simp, by unfold NumRow; simpa using hr, ?_, ?_⟩
    · exact ((Keeps.refl Nil w).alloc _).trans' hk (fun j hj => by simp [blk] at hj; omega)
    · intro g hg
      rcases hb with hb | ⟨hb, _⟩
      · rw [hb] at hg; simp [blk] at hg; omega
      · rw [hb] at hg; simp at hg; omega

/-! ### a block's place -/
variable {w w' : World} {ab bb bc fc : Nat} {db : Nat → Nat} {pb : Nat → Nat → Nat} {fa : Option Addr} {L : List Fx} {A A' : Nd} {O T : Nat → Prop}
theorem NdB.cell (h : NdB w ab A bb bc db pb fa fc L O) (i : Nat) : w.cell? ⟨ab, i, none⟩ = (ndCells A bb bc fa L.length fc)[i]? := cell_of_heap h.blk i
theorem at_nil (w : World) (d n : Int) : Calls Try.prog 28 #[.pointer none, .int .i64 d, .int .i64 n] w fun e w' => e = .returned (.pointer none) ∧ w' = w := by
  go_enter Try.func28, Try.ntmps28
  go_wp2_with fail
  go_ret
  exact ⟨rfl, rfl⟩
theorem at_out (h : NdB w ab A bb bc db pb fa fc L O) (d n : Int) (hno : d < 0 ∨ (A.S.dies : Int) ≤ d ∨ n < 0 ∨ (A.S.blocks : Int) ≤ n) :
    Calls Try.prog 28 #[.pointer (some ⟨ab, 0, none⟩), .int .i64 d, .int .i64 n] w fun e w' => e = .returned (.pointer none) ∧ w' = w := by
  have c0 := h.cell 0
  have c1 := h.cell 1
  simp only [ndCells, List.getElem?_toArray, List.getElem?_cons_zero, List.getElem?_cons_succ] at c0 c1
  clear h
  have hc : d < 0 ∨ (¬ d < 0 ∧ (A.S.dies : Int) ≤ d) ∨ (¬ d < 0 ∧ ¬ (A.S.dies : Int) ≤ d ∧ n < 0) ∨ (¬ d < 0 ∧ ¬ (A.S.dies : Int) ≤ d ∧ ¬ n < 0 ∧ (A.S.blocks : Int) ≤ n) := by omega
  clear hno
  rcases hc with h1 | ⟨h1, h2⟩ | ⟨h1, h2, h3⟩ | ⟨h1, h2, h3, h4⟩
  all_goals
    go_enter Try.func28, Try.ntmps28
    go_wp2_with fail
    go_ret
    exact ⟨rfl, rfl⟩
theorem at_in (h : NdB w ab A bb bc db pb fa fc L O) {d n : Nat} (hd : d < A.S.dies) (hn : n < A.S.blocks) :
    Calls Try.prog 28 #[.pointer (some ⟨ab, 0, none⟩), .int .i64 (d : Nat), .int .i64 (n : Nat)] w fun e w' => e = .returned (.pointer (some ⟨db d, n * 3, none⟩)) ∧ w' = w := by
  have c0 := h.cell 0
  have c1 := h.cell 1
  have c4 := h.cell 4
  simp only [ndCells, List.getElem?_toArray, List.getElem?_cons_zero, List.getElem?_cons_succ] at c0 c1 c4
  obtain ⟨os, ho, hoc, hos⟩ := h.outer
  have c5 : w.cell? ⟨bb, d, none⟩ = some (.slice (some ⟨db d, 0, none⟩) A.S.blocks A.S.blocks) := (cell_of_heap ho d).trans (hos d hd)
  have x1 : ¬ ((d : Int) < 0) := by omega
  have x2 : ¬ ((n : Int) < 0) := by omega
  clear h ho hos
  go_enter Try.func28, Try.ntmps28
  go_wp2_with fail
  go_ret
  exact ⟨rfl, rfl⟩
end Go.Proofs.Ytglpacdenfoicaa
