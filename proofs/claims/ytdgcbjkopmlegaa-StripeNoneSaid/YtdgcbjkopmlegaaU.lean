/- the receiver nil: Add, Parity, Left -/
import Derived.Test.YtdgcbjkopmlegaaT
namespace Go.Proofs.Ytdgcbjkopmlegaa
open Go.RowKit

attribute [local go_sem ↓] Go.wp_at_zero Go.wp_at_succ

set_option maxHeartbeats 4000000 in
theorem left19 (w : World) : Calls Try.prog 19 #[.pointer none] w fun e w' => e = .returned (.int .i64 0) ∧ w' = w := by
  go_enter Try.func19, Try.ntmps19
  go_wp2_with fail
  go_ret
  exact ⟨rfl, rfl⟩

set_option maxHeartbeats 4000000 in
theorem par18 (w : World) : Calls Try.prog 18 #[.pointer none] w fun e w' => e = .returned (.tuple #[.agg #[.slice none 0 0, .slice none 0 0], .int .i64 0, .int .i64 1]) ∧ Keeps Nil w w' := by
  go_enter Try.func18, Try.ntmps18
  go_wp2_with fail
  refine bodyPost_ret (v := .tuple #[.agg #[.slice none 0 0, .slice none 0 0], .int .i64 0, .int .i64 1]) (by simp [results, Try.results18, go_sem]) rfl ⟨rfl, ?_⟩
  first
  | exact (Keeps.refl Nil w).alloc _
  | exact (((Keeps.refl Nil w).alloc _).setCell (p := ⟨w.heap.size, 0, none⟩) (.inr (Nat.le_refl _)) _).setCell (p := ⟨w.heap.size, 1, none⟩) (.inr (Nat.le_refl _)) _

set_option maxHeartbeats 4000000 in
theorem add17 (w : World) (sa ba : Option Addr) (sn sc bn bc : Nat) : Calls Try.prog 17 #[.pointer none, .agg #[.slice sa sn sc, .slice ba bn bc]] w fun e w' => e = .returned (.tuple #[.int .i64 0, .int .i64 1]) ∧ Keeps Nil w w' := by
  go_enter Try.func17, Try.ntmps17
  go_wp2_with fail
  go_quiet (fail)
  go_wp2_with fail
  go_ret2
  exact ⟨rfl, ((Keeps.refl Nil w).alloc _).drewN _⟩
end Go.Proofs.Ytdgcbjkopmlegaa
