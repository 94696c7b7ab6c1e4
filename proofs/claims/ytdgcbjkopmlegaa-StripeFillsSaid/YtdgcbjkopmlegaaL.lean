/- stripe: small, abs; leaves that may be, of raw ones -/
import Derived.Test.YtdgcbjkopmlegaaJ
namespace Go.Proofs.Ytdgcbjkopmlegaa
open Go.RowKit

attribute [local go_sem ↓] Go.wp_at_zero Go.wp_at_succ

def absI (n : Int) : Int := if n < 0 then -(n + 1) else n
theorem absI_nonneg (n : Int) : 0 ≤ absI n := by unfold absI; split <;> omega
theorem abs_val (n a : Int) (w : World) (h0 : -9223372036854775808 ≤ n) (h1 : n ≤ 9223372036854775807) (ha : absI n = a) : Calls Try.prog 14 #[.int .i64 n] w fun e w' => e = .returned (.int .i64 a) ∧ w = w' := by
  subst ha
  by_cases h : n < 0
  · have e1 := Lib.hid (show absI n = -(n + 1) from if_pos h)
    go_enter Try.func14, Try.ntmps14
    go_wp2_with fail
    go_ret
    exact ⟨ret_int e1.out.symm, rfl⟩
  · have e1 := Lib.hid (show absI n = n from if_neg h)
    go_enter Try.func14, Try.ntmps14
    go_wp2_with fail
    go_ret
    exact ⟨ret_int e1.out.symm, rfl⟩

set_option maxHeartbeats 2000000 in
set_option maxRecDepth 100000 in
theorem small12 {w : World} (S N T : Int) (h0 : -9223372036854775808 ≤ S) (h1 : S ≤ 9223372036854775807) (g0 : -9223372036854775808 ≤ N) (g1 : N ≤ 9223372036854775807) :
    Calls Try.prog 12 #[.agg #[.int .i64 S, .int .i64 N, .int .i64 T]] w fun e w' => ∃ s n : Nat, 1 ≤ s ∧ s ≤ 9 ∧ 1 ≤ n ∧ n ≤ 4 ∧ e = .returned (.agg #[.int .i64 s, .int .i64 n, .int .i64 1]) ∧ Keeps Nil w w' := by
  obtain ⟨a, ha⟩ : ∃ a, absI S = a := ⟨_, rfl⟩
  obtain ⟨b, hb⟩ : ∃ b, absI N = b := ⟨_, rfl⟩
  have ha0 : 0 ≤ a := by rw [← ha]; exact absI_nonneg _
  have hb0 : 0 ≤ b := by rw [← hb]; exact absI_nonneg _
  have ea := Lib.hid (show IntKind.i64.wrap (1 + a.tmod 9) = ((1 + a % 9).toNat : Int) by rw [Int.tmod_eq_emod_of_nonneg ha0, IntKind.wrap_i64]; omega)
  have eb := Lib.hid (show IntKind.i64.wrap (1 + b.tmod 4) = ((1 + b % 4).toNat : Int) by rw [Int.tmod_eq_emod_of_nonneg hb0, IntKind.wrap_i64]; omega)
  have hA := Lib.hid (fun W => abs_val S a W h0 h1 ha)
  have hB := Lib.hid (fun W => abs_val N b W g0 g1 hb)
  have l0 : ((w.alloc (.cells #[.int .i64 S, .int .i64 N, .int .i64 T] 27)).alloc (.cells #[.int .i64 0, .int .i64 0, .int .i64 0] 27)).cell? ⟨w.heap.size, 0, none⟩ = some (.int .i64 S) := by simp [go_sem]
  have l1 : ((w.alloc (.cells #[.int .i64 S, .int .i64 N, .int .i64 T] 27)).alloc (.cells #[.int .i64 0, .int .i64 0, .int .i64 0] 27)).cell? ⟨w.heap.size, 1, none⟩ = some (.int .i64 N) := by simp [go_sem]
  clear ha hb h0 h1 g0 g1
  go_enter Try.func12, Try.ntmps12
  go_wp2_with fail
  go_region_held3 (fun W => W.cell? ⟨w.heap.size, 0, none⟩ = some (.int .i64 S) ∧ W.cell? ⟨w.heap.size, 1, none⟩ = some (.int .i64 N)) (first | exact ⟨l0, l1⟩ | (go_keep; done) | (simp [go_sem]; done)) (first
    | (go_at_call_of 14 (Value.int .i64 S); refine (hA.out _).mono ?_; rintro e w2 ⟨rfl, rfl⟩)
    | (go_at_call_of 14 (Value.int .i64 N); refine (hB.out _).mono ?_; rintro e w2 ⟨rfl, rfl⟩))
  all_goals
    go_wp2_with fail
  all_goals
    refine bodyPost_ret (v := .agg #[.int .i64 (IntKind.i64.wrap (1 + a.tmod 9)), .int .i64 (IntKind.i64.wrap (1 + b.tmod 4)), .int .i64 1]) (by simp [results, Try.results12, go_sem]) rfl ⟨(1 + a % 9).toNat, (1 + b % 4).toNat, by omega, by omega, by omega, by omega, by rw [ea.out, eb.out], (((Keeps.refl Nil w).alloc _).alloc _).drew⟩
end Go.Proofs.Ytdgcbjkopmlegaa
