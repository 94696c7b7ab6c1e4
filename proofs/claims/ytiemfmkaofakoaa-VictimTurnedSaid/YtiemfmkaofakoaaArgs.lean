/- a slice of rows that came in -/
import Derived.Test.YtiemfmkaofakoaaC
import Derived.Test.YtiemfmkaofakoaaOpen
namespace Go.Proofs.Ytiemfmkaofakoaa
open Go.ChangeShapes Go.WideShapes Go.ChangeAt Go.RowKit Go.Deep

instance : Inhabited Sup := ⟨⟨0, 0, 0, 0, 0, 0, false⟩⟩
/-- what the fields of a row may be -/
structure SupOk (s : Sup) : Prop where
  id0 : 0 ≤ s.id ∧ s.id ≤ 4294967295
  live : -9223372036854775808 ≤ s.live ∧ s.live ≤ 9223372036854775807
  slots : -9223372036854775808 ≤ s.slots ∧ s.slots ≤ 9223372036854775807
  age : -9223372036854775808 ≤ s.age ∧ s.age ≤ 9223372036854775807
  erases : -9223372036854775808 ≤ s.erases ∧ s.erases ≤ 9223372036854775807
  reads : -9223372036854775808 ≤ s.reads ∧ s.reads ≤ 9223372036854775807

theorem arg_sups {H : Type} {enc : TypeId × Value → H} {w : World} {a : Option Addr} {len cap : Nat} {d : DataW H} {ps : List MemPlace} (h : DataW.Trod enc Try.prog w 0 (fun _ => true) true 22 (.slice a len cap) d ps) :
    ∃ l : Nat → Sup, SupsAt w a len l ∧ (∀ j, j < len → SupOk (l j)) ∧ (a = none → cap = 0 ∧ len = 0) ∧ len ≤ cap ∧ cap ≤ maxLen ∧ (d = .nil ∧ cap = 0 ∨ ∃ elems spare, d = .slice elems spare ∧ elems.length + spare.length = cap) := by
  obtain ⟨h1, h2, h3, h4, n, hi⟩ := arg_slice 7 Try.underlying22 (by kernel_rfl) (by decide) h
  have each : ∀ i, i < len → ∃ s : Sup, SupOk s ∧ ∃ b off, a = some ⟨b, off, none⟩ ∧ SupAt w b (off + i * 7) s := by
    intro i hil
    obtain ⟨b, off, ha, cs, x, hcl, hcell, ht⟩ := hi i hil
    obtain ⟨xs, m, _, _, _, hxl, hf⟩ := DataW.trod_struct Try.underlying30 ht
    have hxl' : xs.length = 7 := hxl
    obtain ⟨x0, g0, w0⟩ := fld_int (i := 0) Try.underlying28 (by kernel_rfl) (by omega) (hf 0 _ rfl)
    obtain ⟨x1, g1, w1⟩ := fld_int (i := 1) Try.underlying3 (by kernel_rfl) (by omega) (hf 1 _ rfl)
    obtain ⟨x2, g2, w2⟩ := fld_int (i := 2) Try.underlying3 (by kernel_rfl) (by omega) (hf 2 _ rfl)
    obtain ⟨x3, g3, w3⟩ := fld_int (i := 3) Try.underlying3 (by kernel_rfl) (by omega) (hf 3 _ rfl)
    obtain ⟨x4, g4, w4⟩ := fld_int (i := 4) Try.underlying3 (by kernel_rfl) (by omega) (hf 4 _ rfl)
    obtain ⟨x5, g5, w5⟩ := fld_int (i := 5) Try.underlying3 (by kernel_rfl) (by omega) (hf 5 _ rfl)
    obtain ⟨x6, g6⟩ := fld_bool (i := 6) Try.underlying4 (by kernel_rfl) (by omega) (hf 6 _ rfl)
    refine ⟨⟨x0, x1, x2, x3, x4, x5, x6⟩, ⟨wf_u32 w0, wf_i64 w1, wf_i64 w2, wf_i64 w3, wf_i64 w4, wf_i64 w5⟩, b, off, ha, ?_⟩
    exact ⟨(hcell 0 (by omega)).trans g0, (hcell 1 (by omega)).trans g1, (hcell 2 (by omega)).trans g2, (hcell 3 (by omega)).trans g3, (hcell 4 (by omega)).trans g4, (hcell 5 (by omega)).trans g5, (hcell 6 (by omega)).trans g6⟩
  obtain ⟨l, hl⟩ := choose_lt (α := Sup) (p := fun i s => SupOk s ∧ ∃ b off, a = some ⟨b, off, none⟩ ∧ SupAt w b (off + i * 7) s) each
  exact ⟨l, fun j hj => (hl j hj).2, fun j hj => (hl j hj).1, h1, h2, h3, h4⟩
end Go.Proofs.Ytiemfmkaofakoaa
