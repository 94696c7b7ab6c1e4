/- tried: what is thrown is answered -/
import Derived.Test.YtnickcjkipemmaaDfG
import Derived.Recover
namespace Go.Proofs.Ytnickcjkipemmaa
open Go.RowKit

theorem ta_torn (c : Int) (w : World) : (Instr.typeAssert (torn c) 20 112 true).run Try.prog w = .ok (.tuple #[.agg #[.int .i64 c], .bool true]) w := by kernel_rfl
set_option maxHeartbeats 2000000 in
set_option maxRecDepth 100000 in
theorem caught (rb : Nat) (c x : Int) (w : World) (hc : w.cell? ⟨rb, 0, none⟩ = some (.int .i64 x)) (hz : ∀ o, w.frozen? ⟨rb, o, none⟩ = false) (older : List PanicEntry) :
    CallsD Try.prog 61 #[.pointer (some ⟨rb, 0, none⟩)] (.panicking ({ v := torn c, recovered := false } :: older)) w fun e u' w' =>
      e = .returned (.tuple #[]) ∧ u' = .panicking ({ v := torn c, recovered := true } :: older) ∧ w'.cell? ⟨rb, 0, none⟩ = some (.int .i64 c) ∧ Keeps (· = rb) w w' := by
  refine callsD_of_wpS Try.func61 rfl fun c₀ cs hu => ?_
  apply wpS_seq
  apply wpS_region
  simp [wpOpsS, go_sem, recoverD, hu, Try.ntmps61, Exit.thenS]
  refine wpS_of_wp ?_
  have hb := lt_of_cell hc
  have hta := ta_torn c w
  unfold torn
  unfold torn at hta
  go_wp2_with fail
  have hk := ((Keeps.refl (· = rb) w).setCell (p := ⟨rb, 0, none⟩) (.inl rfl) (.int .i64 c)).alloc (.cells #[.int .i64 c] 112)
  have hce : ((w.setCell ⟨rb, 0, none⟩ (.int .i64 c)).alloc (.cells #[.int .i64 c] 112)).cell? ⟨rb, 0, none⟩ = some (.int .i64 c) :=
    ((Keeps.refl Nil _).alloc _).cell (World.cell?_setCell_same _ _ _ hc) (fun h => h)
  simp [bodyPostS, results, Try.results61]
  exact ⟨hce, hk⟩
set_option maxHeartbeats 2000000 in
set_option maxRecDepth 100000 in
theorem caught_idle (rb : Nat) (w : World) :
    CallsD Try.prog 61 #[.pointer (some ⟨rb, 0, none⟩)] .returning w fun e u' w' => e = .returned (.tuple #[]) ∧ u' = .returning ∧ w' = w := by
  refine callsD_of_wpS Try.func61 rfl fun c₀ cs hu => ?_
  apply wpS_seq
  apply wpS_region
  simp [wpOpsS, go_sem, recoverD, hu, Try.ntmps61, Exit.thenS]
  refine wpS_of_wp ?_
  go_wp2_with fail
  cases c₀
  simp_all [bodyPostS, results, Try.results61]
end Go.Proofs.Ytnickcjkipemmaa
