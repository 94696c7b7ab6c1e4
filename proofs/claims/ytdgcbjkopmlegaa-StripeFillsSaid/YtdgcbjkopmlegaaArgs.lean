/- leaves and layouts that come in -/
import Derived.Test.YtdgcbjkopmlegaaT
import Derived.Test.YtdgcbjkopmlegaaTree
namespace Go.Proofs.Ytdgcbjkopmlegaa
open Go.ChangeShapes Go.WideShapes Go.ChangeAt Go.RowKit Go.Deep

theorem cellsOf3 : Try.prog.cellsOf 3 = 1 := by kernel_rfl
theorem cellsOf41 : Try.prog.cellsOf 41 = 1 := by kernel_rfl
theorem cellsOf42 : Try.prog.cellsOf 42 = 1 := by kernel_rfl
theorem cellsOf32 : Try.prog.cellsOf 32 = 1 := by kernel_rfl
theorem cellsOf33 : Try.prog.cellsOf 33 = 1 := by kernel_rfl
theorem cellsOf27 : Try.prog.cellsOf 27 = 3 := by kernel_rfl

/-- slots -/
theorem arg_slots {H : Type} {enc : TypeId × Value → H} {w : World} {a : Option Addr} {len cap : Nat} (h : Trd enc Try.prog w 32 [.slice a len cap]) :
    ∃ L : List Sl, L.length = len ∧ SlotsAt w a L ∧ (∀ s ∈ L, (0 ≤ s.key ∧ s.key ≤ 4294967295) ∧ (-9223372036854775808 ≤ s.st ∧ s.st ≤ 9223372036854775807) ∧ (0 ≤ s.seq ∧ s.seq ≤ 18446744073709551615)) ∧ len ≤ maxLen := by
  obtain ⟨h1, h2, h3, h4, h5⟩ := h.slice 3 Try.underlying32 (by kernel_rfl) (by decide)
  obtain ⟨L, hl, hp⟩ := pick_list (n := len) (p := fun i (s : Sl) => (∃ b off, a = some ⟨b, off, none⟩ ∧ w.cell? ⟨b, off + i * 3, none⟩ = some (.int .u32 s.key) ∧ w.cell? ⟨b, off + i * 3 + 1, none⟩ = some (.int .i64 s.st) ∧ w.cell? ⟨b, off + i * 3 + 2, none⟩ = some (.int .u64 s.seq)) ∧ (0 ≤ s.key ∧ s.key ≤ 4294967295) ∧ (-9223372036854775808 ≤ s.st ∧ s.st ≤ 9223372036854775807) ∧ (0 ≤ s.seq ∧ s.seq ≤ 18446744073709551615)) (fun i hi => by
    obtain ⟨b, off, ha, cs, hcl, hcell, hT⟩ := h5 i hi
    obtain ⟨x0, e0, w0⟩ := (hT.fld Try.underlying44 0 41 0 1 rfl cellsOf41).int Try.underlying41
    obtain ⟨x1, e1, w1⟩ := (hT.fld Try.underlying44 1 3 1 1 rfl cellsOf3).int Try.underlying3
    obtain ⟨x2, e2, w2⟩ := (hT.fld Try.underlying44 2 42 2 1 rfl cellsOf42).int Try.underlying42
    refine ⟨⟨x0, x1, x2⟩, ⟨b, off, ha, ?_, ?_, ?_⟩, wf_u32 w0, wf_i64 w1, wf_u64 w2⟩
    · have := hcell 0 (by decide)
      rw [Nat.add_zero] at this
      rw [this]; exact one_of_take e0
    · rw [hcell 1 (by decide)]; exact one_of_take e1
    · rw [hcell 2 (by decide)]; exact one_of_take e2)
  refine ⟨L, hl, fun i hi => (hp i hi).1, fun s hs => ?_, by omega⟩
  obtain ⟨i, hi, rfl⟩ := List.getElem_of_mem hs
  exact (hp i hi).2

/-- sectors -/
theorem arg_secs {H : Type} {enc : TypeId × Value → H} {w : World} {a : Option Addr} {len cap : Nat} (h : Trd enc Try.prog w 33 [.slice a len cap]) :
    ∃ L : List (List Int), L.length = len ∧ RowsAt .u8 w a L ∧ (∀ d ∈ L, d.length ≤ maxLen ∧ ∀ v ∈ d, 0 ≤ v ∧ v ≤ 255) ∧ len ≤ maxLen := by
  obtain ⟨L, hl, hr, _, hle, hcm, _, hb⟩ := h.rows Try.underlying33 Try.underlying45 Try.underlying5 (by kernel_rfl) (by kernel_rfl)
  refine ⟨L, hl, hr, fun d hd => ?_, by omega⟩
  obtain ⟨i, hi, rfl⟩ := List.getElem_of_mem hd
  refine ⟨(hb i hi).2.1, fun v hv => ?_⟩
  obtain ⟨j, hj, rfl⟩ := List.getElem_of_mem hv
  have := wf_u8 ((hb i hi).2.2 j hj)
  rwa [gi_eq hj] at this

/-- leaves -/
theorem arg_leaves {H : Type} {enc : TypeId × Value → H} {w : World} {a : Option Addr} {len cap : Nat} (h : Trd enc Try.prog w 28 [.slice a len cap]) :
    ∃ L : List Lf, L.length = len ∧ LeavesAt w a L ∧ RawOk L ∧ len ≤ maxLen := by
  obtain ⟨h1, h2, h3, h4, h5⟩ := h.slice 2 Try.underlying28 (by kernel_rfl) (by decide)
  obtain ⟨L, hl, hp⟩ := pick_list (n := len) (p := fun i (x : Lf) => (∃ b off sa sc ba bc, a = some ⟨b, off, none⟩ ∧ w.cell? ⟨b, off + i * 2, none⟩ = some (.slice sa x.sl.length sc) ∧ w.cell? ⟨b, off + i * 2 + 1, none⟩ = some (.slice ba x.se.length bc) ∧ LfAt w sa ba x) ∧ LfOk x ∧ (∀ s ∈ x.sl, (0 ≤ s.key ∧ s.key ≤ 4294967295) ∧ (-9223372036854775808 ≤ s.st ∧ s.st ≤ 9223372036854775807) ∧ (0 ≤ s.seq ∧ s.seq ≤ 18446744073709551615)) ∧ ∀ d ∈ x.se, ∀ v ∈ d, 0 ≤ v ∧ v ≤ 255) (fun i hi => by
    obtain ⟨b, off, ha, cs, hcl, hcell, hT⟩ := h5 i hi
    have f0 := hT.fld Try.underlying35 0 32 0 1 rfl cellsOf32
    have f1 := hT.fld Try.underlying35 1 33 1 1 rfl cellsOf33
    obtain ⟨sa, sn, sc, e0⟩ := f0.isSlice Try.underlying32
    obtain ⟨ba, bn, bc, e1⟩ := f1.isSlice Try.underlying33
    rw [e0] at f0
    rw [e1] at f1
    obtain ⟨sl, hsl, hs, hsb, hsm⟩ := arg_slots f0
    obtain ⟨se, hse, hd, hdb, hdm⟩ := arg_secs f1
    subst hsl hse
    have hmx : maxLen ≤ 9223372036854775807 := by unfold maxLen; omega
    refine ⟨⟨sl, se⟩, ⟨b, off, sa, sc, ba, bc, ha, ?_, ?_, hs, hd⟩, ⟨by simp only; omega, by simp only; omega, fun i hi => ?_⟩, hsb, fun d hd => (hdb d hd).2⟩
    · have := hcell 0 (by decide)
      rw [Nat.add_zero] at this
      rw [this]; exact one_of_take e0
    · rw [hcell 1 (by decide)]; exact one_of_take e1
    · exact Nat.le_trans (hdb _ (List.getElem_mem hi)).1 hmx)
  refine ⟨L, hl, fun i hi => (hp i hi).1, fun x hx => ?_, by omega⟩
  obtain ⟨i, hi, rfl⟩ := List.getElem_of_mem hx
  exact (hp i hi).2

/-- a layout by value -/
theorem arg_layout {H : Type} {enc : TypeId × Value → H} {w : World} {cs : Array Value} (h : Trd enc Try.prog w 27 (Value.agg cs).cells.toList) (hcs : cs.size = 3) :
    ∃ S N T : Int, cs = #[.int .i64 S, .int .i64 N, .int .i64 T] ∧ (-9223372036854775808 ≤ S ∧ S ≤ 9223372036854775807) ∧ (-9223372036854775808 ≤ N ∧ N ≤ 9223372036854775807) ∧ (-9223372036854775808 ≤ T ∧ T ≤ 9223372036854775807) := by
  have h' : Trd enc Try.prog w 27 cs.toList := h
  obtain ⟨x0, e0, w0⟩ := (h'.fld Try.underlying27 0 3 0 1 rfl cellsOf3).int Try.underlying3
  obtain ⟨x1, e1, w1⟩ := (h'.fld Try.underlying27 1 3 1 1 rfl cellsOf3).int Try.underlying3
  obtain ⟨x2, e2, w2⟩ := (h'.fld Try.underlying27 2 3 2 1 rfl cellsOf3).int Try.underlying3
  have g0 := one_of_take e0
  have g1 := one_of_take e1
  have g2 := one_of_take e2
  refine ⟨x0, x1, x2, ?_, wf_i64 w0, wf_i64 w1, wf_i64 w2⟩
  apply Array.ext'
  apply List.ext_getElem?
  intro i
  match i with
  | 0 => rw [g0]; rfl
  | 1 => rw [g1]; rfl
  | 2 => rw [g2]; rfl
  | i + 3 => rw [List.getElem?_eq_none (by simp; omega), List.getElem?_eq_none (by simp)]
end Go.Proofs.Ytdgcbjkopmlegaa
