/- walks of awake and abs -/
import Derived.Test.YtnickcjkipemmaaSpec
namespace Go.Proofs.Ytnickcjkipemmaa
open Go.RowKit

attribute [local go_sem ↓] Go.wp_at_zero Go.wp_at_succ

def absI (n : Int) : Int := if n < 0 then -(n + 1) else n
theorem absI_nonneg (n : Int) : 0 ≤ absI n := by unfold absI; split <;> omega
theorem absI_le {n : Int} (h0 : -9223372036854775808 ≤ n) (h1 : n ≤ 9223372036854775807) : absI n ≤ 9223372036854775807 := by unfold absI; split <;> omega
theorem abs_any (n : Int) (w : World) (h0 : -9223372036854775808 ≤ n) (h1 : n ≤ 9223372036854775807) : Calls Try.prog 13 #[.int .i64 n] w fun e w' => e = .returned (.int .i64 (absI n)) ∧ w = w' := by
  by_cases h : n < 0
  · have e1 := Lib.hid (show absI n = -(n + 1) from if_pos h)
    go_enter Try.func13, Try.ntmps13
    go_wp2_with fail
    go_ret
    exact ⟨ret_int e1.out.symm, rfl⟩
  · have e1 := Lib.hid (show absI n = n from if_neg h)
    go_enter Try.func13, Try.ntmps13
    go_wp2_with fail
    go_ret
    exact ⟨ret_int e1.out.symm, rfl⟩

theorem abs_val (n a : Int) (w : World) (h0 : -9223372036854775808 ≤ n) (h1 : n ≤ 9223372036854775807) (ha : absI n = a) : Calls Try.prog 13 #[.int .i64 n] w fun e w' => e = .returned (.int .i64 a) ∧ w = w' := by
  subst ha
  exact abs_any n w h0 h1

set_option maxHeartbeats 2000000 in
theorem awake_any (w : World) : Calls Try.prog 12 #[] w fun e w' => e = .returned (.bool true) ∧ Keeps Nil w w' := by
  go_enter Try.func12, Try.ntmps12
  go_wp2_with fail
  refine (newX 2 w (by decide)).mono ?_
  rintro e w1 ⟨cb, O, rfl, hL, hK, hO⟩
  have hC : Calls Try.prog 15 #[.pointer (some ⟨cb, 0, none⟩), .agg #[.int .i64 1, .int .u64 5, .bool false]] w1 (CacheOut w1 cb 2 O (.tuple #[.agg #[.int .i64 0, .int .u64 0, .bool false], .bool false]) [⟨1, 5, false⟩]) := putX' hL ⟨1, 5, false⟩ (by decide) (by decide)
  have hC1 := Lib.hid hC
  have hK1 := Lib.hid hK
  have hO1 := Lib.hid hO
  clear hL hK hC hO
  go_wp2_with fail
  refine (hC1.out).mono ?_
  rintro e w2 ⟨rfl, O2, hL, hK, hG⟩
  have hC : Calls Try.prog 15 #[.pointer (some ⟨cb, 0, none⟩), .agg #[.int .i64 2, .int .u64 0, .bool false]] w2 (CacheOut w2 cb 2 O2 (.tuple #[.agg #[.int .i64 0, .int .u64 0, .bool false], .bool false]) [⟨2, 0, false⟩, ⟨1, 5, false⟩]) := putX' hL ⟨2, 0, false⟩ (by decide) (by decide)
  have hC2 := Lib.hid hC
  have hK2 := Lib.hid (hK1.out.trans' hK (fun j hj => .inr (hO1.out j hj)))
  have hO2 := Lib.hid (show ∀ k, O2 k → w.heap.size ≤ k from fun k hk => by
    rcases hG k hk with h | h
    · exact hO1.out k h
    · have := hK1.out.size; omega)
  clear hL hK hC hG hK1 hO1 hC1
  go_wp2_with fail
  refine (hC2.out).mono ?_
  rintro e w3 ⟨rfl, O3, hL, hK, hG⟩
  have hC : Calls Try.prog 16 #[.pointer (some ⟨cb, 0, none⟩), .int .i64 1] w3 (CacheOut w3 cb 2 O3 (.tuple #[.int .u64 5, .bool true]) [⟨1, 5, false⟩, ⟨2, 0, false⟩]) := getX hL 1
  have hC3 := Lib.hid hC
  have hK3 := Lib.hid (hK2.out.trans' hK (fun j hj => .inr (hO2.out j hj)))
  have hO3 := Lib.hid (show ∀ k, O3 k → w.heap.size ≤ k from fun k hk => by
    rcases hG k hk with h | h
    · exact hO2.out k h
    · have := hK2.out.size; omega)
  clear hL hK hC hG hK2 hO2 hC2
  go_wp2_with fail
  refine (hC3.out).mono ?_
  rintro e w4 ⟨rfl, O4, hL, hK, hG⟩
  have hC : Calls Try.prog 15 #[.pointer (some ⟨cb, 0, none⟩), .agg #[.int .i64 3, .int .u64 0, .bool false]] w4 (CacheOut w4 cb 2 O4 (.tuple #[.agg #[.int .i64 2, .int .u64 0, .bool false], .bool true]) [⟨3, 0, false⟩, ⟨1, 5, false⟩]) := putX' hL ⟨3, 0, false⟩ (by decide) (by decide)
  have hC4 := Lib.hid hC
  have hK4 := Lib.hid (hK3.out.trans' hK (fun j hj => .inr (hO3.out j hj)))
  have hO4 := Lib.hid (show ∀ k, O4 k → w.heap.size ≤ k from fun k hk => by
    rcases hG k hk with h | h
    · exact hO3.out k h
    · have := hK3.out.size; omega)
  clear hL hK hC hG hK3 hO3 hC3
  go_wp2_with fail
  refine (hC4.out).mono ?_
  rintro e w5 ⟨rfl, O5, hL, hK, hG⟩
  have hL' := Lib.hid hL
  have hK5 := Lib.hid (hK4.out.trans' hK (fun j hj => .inr (hO4.out j hj)))
  clear hL hK hG hK4 hO4 hC4
  go_wp2_with fail
  refine (lenX (hL'.out.nil ((Keeps.refl Nil _).alloc _))).mono ?_
  rintro e w6 ⟨rfl, rfl⟩
  go_wp2_with fail
  go_ret
  exact ⟨rfl, hK5.out.alloc _⟩
end Go.Proofs.Ytnickcjkipemmaa
