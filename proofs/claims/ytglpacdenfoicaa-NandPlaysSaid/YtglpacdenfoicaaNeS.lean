/- nand: small facts for the laws' walks -/
import Derived.Test.YtglpacdenfoicaaNeL
namespace Go.Proofs.Ytglpacdenfoicaa
open Go.RowKit

theorem mod_nat {x : Int} (n : Nat) (hn : 0 < n) (hx : 0 ≤ x) : ∃ q : Nat, q < n ∧ x.tmod (n : Int) = (q : Int) ∧ x % (n : Int) = (q : Int) := by
  obtain ⟨q, hq⟩ := Int.eq_ofNat_of_zero_le (Int.emod_nonneg x (show (n : Int) ≠ 0 by omega))
  have := Int.emod_lt_of_pos x (show (0 : Int) < n by omega)
  exact ⟨q, by omega, by rw [Int.tmod_eq_emod_of_nonneg hx]; exact hq, hq⟩
theorem OpsAt.cells {w : World} {a : Option Addr} {L : List OpN} (h : OpsAt w a L) {k : Nat} (hk : k < L.length) : ∃ o, L[k]? = some o ∧ OpOk w o ∧ ∃ b off, a = some ⟨b, off, none⟩ ∧
  w.cell? ⟨b, off + k * 5, none⟩ = some (.int .i64 o.kind) ∧ w.cell? ⟨b, off + k * 5 + 1, none⟩ = some (.int .i64 o.die) ∧ w.cell? ⟨b, off + k * 5 + 2, none⟩ = some (.int .i64 o.block) ∧
  w.cell? ⟨b, off + k * 5 + 3, none⟩ = some (.int .i64 o.page) ∧ w.cell? ⟨b, off + k * 5 + 4, none⟩ = some (.slice o.a o.data.length o.c) := by
  have he := List.getElem?_eq_getElem hk
  exact ⟨_, he, h k _ he⟩
theorem NumsAt.lt {k : IntKind} {w : World} {a : Option Addr} {l : List Int} (h : NumsAt k w a l) (hl : 0 < l.length) : ∀ g, blk a = some g → g < w.heap.size := by
  intro g hg
  obtain ⟨b, off, rfl, hc⟩ := h 0 hl
  cases hg
  exact lt_of_cell hc
end Go.Proofs.Ytglpacdenfoicaa
