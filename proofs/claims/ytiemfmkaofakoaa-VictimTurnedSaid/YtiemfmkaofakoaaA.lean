/- small functions: within, Compare, Or, the closures -/
import Derived.Test.YtiemfmkaofakoaaRows
import Derived.Test.YtiemfmkaofakoaaBase
import Derived.Test.YtiemfmkaofakoaaMath
namespace Go.Proofs.Ytiemfmkaofakoaa
open Go.RowKit

set_option maxHeartbeats 400000 in
theorem within_any (n : Int) (w : World) : Calls Try.prog 18 #[.int .i64 n] w fun e w' => e = .returned (.int .i64 (inn n)) ∧ w' = w := by
  unfold inn
  by_cases h1 : n < 0
  · rw [if_pos h1]
    go_enter Try.func18, Try.ntmps18
    go_wp2
    go_ret
    exact ⟨rfl, rfl⟩
  · rw [if_neg h1]
    by_cases h2 : n > 1048576
    · rw [if_pos h2]
      go_enter Try.func18, Try.ntmps18
      go_wp2
      go_ret
      exact ⟨rfl, rfl⟩
    · rw [if_neg h2]
      go_enter Try.func18, Try.ntmps18
      go_wp2
      go_ret
      exact ⟨rfl, rfl⟩

set_option maxHeartbeats 400000 in
theorem nan_any (n : Int) (w : World) : Calls Try.prog 28 #[.int .i64 n] w fun e w' => e = .returned (.bool false) ∧ w' = w := by
  go_enter Try.func28, Try.ntmps28
  go_wp2
  go_ret
  exact ⟨by simp, rfl⟩
set_option maxHeartbeats 400000 in
theorem nanU_any (n : Int) (w : World) : Calls Try.prog 31 #[.int .u32 n] w fun e w' => e = .returned (.bool false) ∧ w' = w := by
  go_enter Try.func31, Try.ntmps31
  go_wp2
  go_ret
  exact ⟨by simp, rfl⟩
set_option maxHeartbeats 400000 in
theorem cmp_any (a b : Int) (w : World) : Calls Try.prog 17 #[.int .i64 a, .int .i64 b] w fun e w' => e = .returned (.int .i64 (cmpI a b)) ∧ w' = w := by
  unfold cmpI
  by_cases h1 : a < b
  · rw [if_pos h1]
    go_enter Try.func17, Try.ntmps17
    go_wp2_with (go_at_call 28; refine (nan_any _ _).mono ?_; rintro e w' ⟨rfl, rfl⟩)
    go_ret
    exact ⟨rfl, rfl⟩
  · rw [if_neg h1]
    by_cases h2 : a > b
    · rw [if_pos h2]
      go_enter Try.func17, Try.ntmps17
      go_wp2_with (go_at_call 28; refine (nan_any _ _).mono ?_; rintro e w' ⟨rfl, rfl⟩)
      go_ret
      exact ⟨rfl, rfl⟩
    · rw [if_neg h2]
      go_enter Try.func17, Try.ntmps17
      go_wp2_with (go_at_call 28; refine (nan_any _ _).mono ?_; rintro e w' ⟨rfl, rfl⟩)
      go_ret
      exact ⟨rfl, rfl⟩
set_option maxHeartbeats 400000 in
theorem cmpU_any (a b : Int) (w : World) : Calls Try.prog 30 #[.int .u32 a, .int .u32 b] w fun e w' => e = .returned (.int .i64 (cmpI a b)) ∧ w' = w := by
  unfold cmpI
  by_cases h1 : a < b
  · rw [if_pos h1]
    go_enter Try.func30, Try.ntmps30
    go_wp2_with (go_at_call 31; refine (nanU_any _ _).mono ?_; rintro e w' ⟨rfl, rfl⟩)
    go_ret
    exact ⟨rfl, rfl⟩
  · rw [if_neg h1]
    by_cases h2 : a > b
    · rw [if_pos h2]
      go_enter Try.func30, Try.ntmps30
      go_wp2_with (go_at_call 31; refine (nanU_any _ _).mono ?_; rintro e w' ⟨rfl, rfl⟩)
      go_ret
      exact ⟨rfl, rfl⟩
    · rw [if_neg h2]
      go_enter Try.func30, Try.ntmps30
      go_wp2_with (go_at_call 31; refine (nanU_any _ _).mono ?_; rintro e w' ⟨rfl, rfl⟩)
      go_ret
      exact ⟨rfl, rfl⟩

def orI (x y : Int) : Int := if x = 0 then y else x
set_option maxHeartbeats 400000 in
theorem or_any (g : Nat) (x y : Int) (w : World) (h0 : w.cell? ⟨g, 0, none⟩ = some (.int .i64 x)) (h1 : w.cell? ⟨g, 1, none⟩ = some (.int .i64 y)) :
    Calls Try.prog 29 #[.slice (some ⟨g, 0, none⟩) 2 2] w fun e w' => e = .returned (.int .i64 (orI x y)) ∧ w' = w := by
  unfold orI
  by_cases hx : x = 0
  · rw [if_pos hx]
    subst hx
    by_cases hy : y = 0
    · subst hy
      go_enter Try.func29, Try.ntmps29
      go_wp2_with fail
      refine wp_loop_rounds 3 ?_
      rw [rounds_succ]
      go_wp2
      rw [rounds_succ]
      go_wp2
      rw [rounds_succ]
      go_wp2
      go_ret
      exact ⟨rfl, rfl⟩
    · have hy' : (y != 0) = true := by simp [hy]
      go_enter Try.func29, Try.ntmps29
      go_wp2_with fail
      refine wp_loop_rounds 2 ?_
      rw [rounds_succ]
      go_wp2
      rw [rounds_succ]
      go_wp2
      go_ret
      exact ⟨rfl, rfl⟩
  · rw [if_neg hx]
    have hx' : (x != 0) = true := by simp [hx]
    go_enter Try.func29, Try.ntmps29
    go_wp2_with fail
    refine wp_loop_rounds 1 ?_
    rw [rounds_succ]
    go_wp2
    go_ret
    exact ⟨rfl, rfl⟩

def supC (s : Sup) : List Value := [.int .u32 s.id, .int .i64 s.live, .int .i64 s.slots, .int .i64 s.age, .int .i64 s.erases, .int .i64 s.reads, .bool s.sick]
def mayG (s : Sup) : Bool := decide (0 ≤ s.live) && decide (s.live < s.slots)

set_option maxHeartbeats 400000 in
theorem may_any (s : Sup) (w : World) : Calls Try.prog 15 #[.agg #[.int .u32 s.id, .int .i64 s.live, .int .i64 s.slots, .int .i64 s.age, .int .i64 s.erases, .int .i64 s.reads, .bool s.sick]] w fun e w' => e = .returned (.bool (mayG s)) ∧ Keeps Nil w w' := by
  unfold mayG
  by_cases h1 : 0 ≤ s.live
  · go_enter Try.func15, Try.ntmps15
    go_wp2
    go_ret
    exact ⟨by simp [h1], (Keeps.refl _ _).alloc _⟩
  · go_enter Try.func15, Try.ntmps15
    go_wp2
    go_ret
    exact ⟨by rw [decide_eq_false (show ¬ 0 ≤ s.live by omega)]; rfl, (Keeps.refl _ _).alloc _⟩
end Go.Proofs.Ytiemfmkaofakoaa
