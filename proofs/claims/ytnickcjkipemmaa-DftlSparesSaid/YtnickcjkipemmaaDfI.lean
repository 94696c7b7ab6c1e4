/- tried -/
import Derived.Test.YtnickcjkipemmaaDfH
namespace Go.Proofs.Ytnickcjkipemmaa
open Go.RowKit

theorem enter51 (args : Array Value) (w : World) : (callFunc 51 args).run Try.prog w = .ok (.enter 51 args) w := by kernel_rfl
theorem enter53 (args : Array Value) (w : World) : (callFunc 53 args).run Try.prog w = .ok (.enter 53 args) w := by kernel_rfl
theorem enter55 (args : Array Value) (w : World) : (callFunc 55 args).run Try.prog w = .ok (.enter 55 args) w := by kernel_rfl
set_option maxHeartbeats 2000000 in
set_option maxRecDepth 100000 in
/-- what is thrown is answered -/
theorem tried_any {f : FuncId} {caps : Array Value} {c : Int} {w : World} {S : World → Prop} (hen : ∀ w, (callFunc f caps).run Try.prog w = .ok (.enter f caps) w) (hcall : Calls Try.prog f caps (w.alloc (.cells #[.int .i64 0] 27)) fun e w1 => e = resE c ∧ S w1 ∧ Keeps (fun k => k < w.heap.size) (w.alloc (.cells #[.int .i64 0] 27)) w1) :
    Calls Try.prog 50 #[.func (.func f) #[] caps] w fun e w' => e = .returned (.int .i64 c) ∧ ∃ w1, S w1 ∧ Keeps (· = w.heap.size) w1 w' := by
  have hmf : ∀ (fn : Fn) (first cap : Array Value) (w : World), (Instr.makeFunc fn first cap).run Try.prog w = .ok (.func fn first cap) w := fun _ _ _ _ => rfl
  have hcall' := Lib.hid hcall
  have ha := heap_alloc_new w (.cells #[.int .i64 0] 27)
  have ha' := Lib.hid ha
  clear hcall ha
  by_cases hc : c = 0
  · have hre : resE c = .returned (.tuple #[]) := if_pos hc
    rw [hre] at hcall'
    go_enter_defers Try.func50, Try.ntmps50
    go_wp2_with fail
    refine (hcall'.out).mono ?_
    rintro e w1 ⟨rfl, hS, hk⟩
    have hb := hk.heap ha'.out (fun h => by omega)
    have c0 := cell_of_heap hb 0
    have f0 := frozen_of_heap hb
    simp at c0
    have hS' := Lib.hid hS
    clear hS hk
    go_wp2_with fail
    refine leaves_cons (f := 61) (args := #[.pointer (some ⟨w.heap.size, 0, none⟩)]) (by simp) (by simp [go_sem]) ?_
    refine (caught_idle w.heap.size _).mono ?_
    rintro e u' w'' ⟨rfl, rfl, rfl⟩
    have c9 : (w1.setCell ⟨w.heap.size, 0, none⟩ (.int .i64 0)).cell? ⟨w.heap.size, 0, none⟩ = some (.int .i64 0) := World.cell?_setCell_same _ _ _ c0
    simp [Leaves, settle, results, Try.results50, go_sem, c9]
    exact ⟨hc.symm, w1, hS'.out, (Keeps.refl (· = w.heap.size) w1).setCell (.inl rfl) _⟩
  · have hre : resE c = tornE c := if_neg hc
    rw [hre] at hcall'
    go_enter_defers Try.func50, Try.ntmps50
    go_wp2_with fail
    refine (hcall'.out).mono ?_
    rintro e w1 ⟨rfl, hS, hk⟩
    have hb := hk.heap ha'.out (fun h => by omega)
    have c0 := cell_of_heap hb 0
    have f0 := frozen_of_heap hb
    simp at c0
    have hS' := Lib.hid hS
    clear hS hk
    show bodyPostD Try.prog Try.f50 _ (Exit.panic [{ v := torn c, recovered := false }]) _ w1
    refine leaves_cons (f := 61) (args := #[.pointer (some ⟨w.heap.size, 0, none⟩)]) (by simp) (by simp [go_sem]) ?_
    refine (caught w.heap.size c 0 w1 c0 f0 []).mono ?_
    rintro e u' w'' ⟨rfl, rfl, c9, hk9⟩
    simp [Leaves, settle, results, Try.results50, go_sem, c9]
    exact ⟨w1, hS'.out, hk9⟩
end Go.Proofs.Ytnickcjkipemmaa
