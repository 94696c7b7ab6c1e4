/- records that may be -/
import Derived.Test.YtmdgbcbnciaikaaN
namespace Go.Proofs.Ytmdgbcbnciaikaa
open Go.RowKit

attribute [local go_sem ↓] Go.wp_at_zero Go.wp_at_succ

/-- may the space of a record be, but for what is in its way? -/
def mayR (keys : Int) (T : List Spc) (r : Rec) : Bool := decide (1 ≤ r.a ∧ r.a ≤ 16 ∧ 1 ≤ r.b ∧ r.b ≤ keys ∧ r.c ≤ keys - r.b ∧ tat T r.a = sp0)
def spOf (r : Rec) : Spc := ⟨r.a, r.c, r.b⟩

theorem neq_run2 {a b c : Int} (h : ¬ (a = 0 ∧ b = 0 ∧ c = 0)) (W : World) : (binOp .neq 30 (.agg #[.int .i64 a, .int .i64 b, .int .i64 c]) (.agg #[.int .i64 0, .int .i64 0, .int .i64 0])).run Try.prog W = .ok (.bool true) W := by
  by_cases ha : a = 0
  · by_cases hb : b = 0
    · have hc : ¬ c = 0 := fun e => h ⟨ha, hb, e⟩
      subst ha; subst hb
      simp [go_sem, hc]
    · subst ha
      simp [go_sem, hb]
  · simp [go_sem, ha]

end Go.Proofs.Ytmdgbcbnciaikaa
