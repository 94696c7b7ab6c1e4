/- a script that came in -/
import Derived.Test.YtnickcjkipemmaaMost
import Derived.Test.YtnickcjkipemmaaOpen
namespace Go.Proofs.Ytnickcjkipemmaa
open Go.ChangeShapes Go.WideShapes Go.ChangeAt Go.RowKit Go.Deep

theorem arg_ops {H : Type} {enc : TypeId × Value → H} {w : World} {a : Option Addr} {len cap : Nat} {d : DataW H} {ps : List MemPlace} (h : DataW.Trod enc Try.prog w 0 (fun _ => true) true 42 (.slice a len cap) d ps) :
    ∃ l : Nat → OpR, OpsAt w a len l ∧ (∀ j, j < len → OpOk (l j)) ∧ (a = none → cap = 0 ∧ len = 0) ∧ len ≤ cap ∧ cap ≤ maxLen ∧ (d = .nil ∧ cap = 0 ∨ ∃ elems spare, d = .slice elems spare ∧ elems.length + spare.length = cap) := by
  obtain ⟨h1, h2, h3, h4, n, hi⟩ := arg_slice 5 Try.underlying42 (by kernel_rfl) (by decide) h
  have each : ∀ i, i < len → ∃ s : OpR, OpOk s ∧ ∃ b off, a = some ⟨b, off, none⟩ ∧ OpAt w b (off + i * 5) s := by
    intro i hil
    obtain ⟨b, off, ha, cs, x, hcl, hcell, ht⟩ := hi i hil
    obtain ⟨xs, m, _, _, _, hxl, hf⟩ := DataW.trod_struct Try.underlying44 ht
    have hxl' : xs.length = 5 := hxl
    obtain ⟨x0, g0, w0⟩ := fld_int (i := 0) Try.underlying3 (by kernel_rfl) (by omega) (hf 0 _ rfl)
    obtain ⟨x1, g1, w1⟩ := fld_int (i := 1) Try.underlying3 (by kernel_rfl) (by omega) (hf 1 _ rfl)
    obtain ⟨x2, g2, w2⟩ := fld_int (i := 2) Try.underlying3 (by kernel_rfl) (by omega) (hf 2 _ rfl)
    obtain ⟨x3, g3, w3⟩ := fld_int (i := 3) Try.underlying30 (by kernel_rfl) (by omega) (hf 3 _ rfl)
    obtain ⟨x4, g4⟩ := fld_bool (i := 4) Try.underlying4 (by kernel_rfl) (by omega) (hf 4 _ rfl)
    refine ⟨⟨x0, x1, x2, x3, x4⟩, ⟨wf_i64 w0, wf_i64 w1, wf_i64 w2, wf_u64 w3⟩, b, off, ha, ?_⟩
    exact ⟨(hcell 0 (by omega)).trans g0, (hcell 1 (by omega)).trans g1, (hcell 2 (by omega)).trans g2, (hcell 3 (by omega)).trans g3, (hcell 4 (by omega)).trans g4⟩
  obtain ⟨l, hl⟩ := choose_lt (α := OpR) (p := fun i s => OpOk s ∧ ∃ b off, a = some ⟨b, off, none⟩ ∧ OpAt w b (off + i * 5) s) each
  exact ⟨l, fun j hj => (hl j hj).2, fun j hj => (hl j hj).1, h1, h2, h3, h4⟩
end Go.Proofs.Ytnickcjkipemmaa
