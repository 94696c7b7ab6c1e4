/- BufferPlays: the script opened -/
import Derived.Test.YtcejapdjkkmkaaaS
namespace Go.Proofs.Ytcejapdjkkmkaaa
open Go.ChangeShapes Go.WideShapes Go.ChangeAt Go.RowKit Go.Deep

theorem bytesOf5 : Try.prog.bytesOf 5 = 1 := by kernel_rfl
theorem cellsOf3 : Try.prog.cellsOf 3 = 1 := by kernel_rfl
theorem cellsOf30 : Try.prog.cellsOf 30 = 1 := by kernel_rfl
theorem arg_script {H : Type} {enc : TypeId × Value → H} {w : World} {a : Option Addr} {len cap : Nat} (h : Trd enc Try.prog w 42 [.slice a len cap]) :
    ∃ ops : List OpI, ops.length = len ∧ OpsAt w a ops ∧ OpsOk ops ∧ len ≤ maxLen := by
  obtain ⟨h1, h2, h3, h4, h5⟩ := h.slice 3 Try.underlying42 (by kernel_rfl) (by decide)
  obtain ⟨ops, hl, hp⟩ := pick_list (n := len) (p := fun i (o : OpI) => (∃ b off a' cap', a = some ⟨b, off, none⟩ ∧ w.cell? ⟨b, off + i * 3, none⟩ = some (.int .i64 o.kind) ∧ w.cell? ⟨b, off + i * 3 + 1, none⟩ = some (.int .i64 o.key) ∧
      w.cell? ⟨b, off + i * 3 + 2, none⟩ = some (.slice a' o.data.length cap') ∧ DataAt w a' o.data ∧ (a' = none → cap' = 0)) ∧ (-9223372036854775808 ≤ o.kind ∧ o.kind ≤ 9223372036854775807) ∧ o.data.length ≤ 140737488351232 ∧ o.data.length ≤ maxLen) (fun i hi => by
    obtain ⟨b, off, ha, cs, hcl, hcell, hT⟩ := h5 i hi
    have f0 := hT.fld Try.underlying48 0 3 0 1 rfl cellsOf3
    have f1 := hT.fld Try.underlying48 1 3 1 1 rfl cellsOf3
    have f2 := hT.fld Try.underlying48 2 30 2 1 rfl cellsOf30
    obtain ⟨x0, e0, w0⟩ := f0.int Try.underlying3
    obtain ⟨x1, e1, w1⟩ := f1.int Try.underlying3
    obtain ⟨a', n', c', e2⟩ := f2.isSlice Try.underlying30
    rw [e2] at f2
    obtain ⟨d, hd, hn, hnil, hle, hcm, hby, hwf⟩ := f2.nums Try.underlying30 Try.underlying5 (by kernel_rfl)
    subst hd
    rw [bytesOf5] at hby
    refine ⟨⟨x0, x1, d⟩, ⟨b, off, a', c', ha, ?_, ?_, ?_, hn, fun e => (hnil e).1⟩, wf_i64 w0, by simp only; omega, by simp only; omega⟩
    · have := hcell 0 (by decide)
      rw [Nat.add_zero] at this
      rw [this]; exact one_of_take e0
    · rw [hcell 1 (by decide)]; exact one_of_take e1
    · rw [hcell 2 (by decide)]; exact one_of_take e2)
  exact ⟨ops, hl, fun i hi => (hp i hi).1, fun i hi => (hp i hi).2, by omega⟩
end Go.Proofs.Ytcejapdjkkmkaaa
