/- nand: arguments opened: scripts, faults, shapes -/
import Derived.Test.YtglpacdenfoicaaNeE
namespace Go.Proofs.Ytglpacdenfoicaa
open Go.ChangeShapes Go.WideShapes Go.ChangeAt Go.RowKit Go.Deep

structure OpN where
  kind : Int
  die : Int
  block : Int
  page : Int
  a : Option Addr
  c : Nat
  data : List Int
structure OpOk (w : World) (o : OpN) : Prop where
  kind : -9223372036854775808 ≤ o.kind ∧ o.kind ≤ 9223372036854775807
  die : -9223372036854775808 ≤ o.die ∧ o.die ≤ 9223372036854775807
  block : -9223372036854775808 ≤ o.block ∧ o.block ≤ 9223372036854775807
  page : -9223372036854775808 ≤ o.page ∧ o.page ≤ 9223372036854775807
  nums : NumsAt .u8 w o.a o.data
  nil : o.a = none → o.c = 0 ∧ o.data.length = 0
  cap : o.data.length ≤ o.c
  len : o.data.length ≤ 140737488351232
  byte : ∀ j, j < o.data.length → 0 ≤ gi o.data j ∧ gi o.data j ≤ 255
def OpsAt (w : World) (a : Option Addr) (L : List OpN) : Prop := ∀ k o, L[k]? = some o → OpOk w o ∧ ∃ b off, a = some ⟨b, off, none⟩ ∧
  w.cell? ⟨b, off + k * 5, none⟩ = some (.int .i64 o.kind) ∧ w.cell? ⟨b, off + k * 5 + 1, none⟩ = some (.int .i64 o.die) ∧ w.cell? ⟨b, off + k * 5 + 2, none⟩ = some (.int .i64 o.block) ∧
  w.cell? ⟨b, off + k * 5 + 3, none⟩ = some (.int .i64 o.page) ∧ w.cell? ⟨b, off + k * 5 + 4, none⟩ = some (.slice o.a o.data.length o.c)
theorem bytesOf3 : Try.prog.bytesOf 3 = 8 := by kernel_rfl
theorem bytesOf5 : Try.prog.bytesOf 5 = 1 := by kernel_rfl
theorem cellsOf3 : Try.prog.cellsOf 3 = 1 := by kernel_rfl
theorem cellsOf22 : Try.prog.cellsOf 22 = 1 := by kernel_rfl
theorem cellsOf23 : Try.prog.cellsOf 23 = 1 := by kernel_rfl
theorem arg_script {H : Type} {enc : TypeId × Value → H} {w : World} {a : Option Addr} {len cap : Nat} (h : Trd enc Try.prog w 43 [.slice a len cap]) :
    ∃ L : List OpN, L.length = len ∧ OpsAt w a L ∧ len ≤ 140737488351232 := by
  obtain ⟨h1, h2, h3, h4, h5⟩ := h.slice 5 Try.underlying43 (by kernel_rfl) (by decide)
  rw [show Try.prog.bytesOf 46 = 56 by kernel_rfl] at h4
  obtain ⟨L, hl, hp⟩ := pick_list (n := len) (p := fun k (o : OpN) => OpOk w o ∧ ∃ b off, a = some ⟨b, off, none⟩ ∧
      w.cell? ⟨b, off + k * 5, none⟩ = some (.int .i64 o.kind) ∧ w.cell? ⟨b, off + k * 5 + 1, none⟩ = some (.int .i64 o.die) ∧ w.cell? ⟨b, off + k * 5 + 2, none⟩ = some (.int .i64 o.block) ∧
      w.cell? ⟨b, off + k * 5 + 3, none⟩ = some (.int .i64 o.page) ∧ w.cell? ⟨b, off + k * 5 + 4, none⟩ = some (.slice o.a o.data.length o.c)) (fun i hi => by
    obtain ⟨b, off, ha, cs, hcl, hcell, hT⟩ := h5 i hi
    have f0 := hT.fld Try.underlying46 0 3 0 1 rfl cellsOf3
    have f1 := hT.fld Try.underlying46 1 3 1 1 rfl cellsOf3
    have f2 := hT.fld Try.underlying46 2 3 2 1 rfl cellsOf3
    have f3 := hT.fld Try.underlying46 3 3 3 1 rfl cellsOf3
    have f4 := hT.fld Try.underlying46 4 22 4 1 rfl cellsOf22
    obtain ⟨x0, e0, w0⟩ := f0.int Try.underlying3
    obtain ⟨x1, e1, w1⟩ := f1.int Try.underlying3
    obtain ⟨x2, e2, w2⟩ := f2.int Try.underlying3
    obtain ⟨x3, e3, w3⟩ := f3.int Try.underlying3
    obtain ⟨a', n', c', e4⟩ := f4.isSlice Try.underlying22
    rw [e4] at f4
    obtain ⟨d, hd, hn, hnil, hle, hcm, hby, hwf⟩ := f4.nums Try.underlying22 Try.underlying5 (by kernel_rfl)
    subst hd
    rw [bytesOf5] at hby
    refine ⟨⟨x0, x1, x2, x3, a', c', d⟩, ⟨wf_i64 w0, wf_i64 w1, wf_i64 w2, wf_i64 w3, hn, hnil, hle, by simp only; omega, fun j hj => wf_u8 (hwf j hj)⟩, b, off, ha, ?_, ?_, ?_, ?_, ?_⟩
    · have := hcell 0 (by decide)
      rw [Nat.add_zero] at this
      rw [this]; exact one_of_take e0
    · rw [hcell 1 (by decide)]; exact one_of_take e1
    · rw [hcell 2 (by decide)]; exact one_of_take e2
    · rw [hcell 3 (by decide)]; exact one_of_take e3
    · rw [hcell 4 (by decide)]; exact one_of_take e4)
  refine ⟨L, hl, fun k o hk => ?_, by omega⟩
  have hlt := (List.getElem?_eq_some_iff.1 hk).1
  have := hp k hlt
  rw [(List.getElem?_eq_some_iff.1 hk).2] at this
  exact this
/-- faults -/
theorem arg_faults {H : Type} {enc : TypeId × Value → H} {w : World} {a : Option Addr} {len cap : Nat} (h : Trd enc Try.prog w 34 [.slice a len cap]) :
    ∃ L : List Fx, L.length = len ∧ FtsAt w a L ∧ len ≤ 140737488351232 := by
  obtain ⟨h1, h2, h3, h4, h5⟩ := h.slice 8 Try.underlying34 (by kernel_rfl) (by decide)
  rw [show Try.prog.bytesOf 33 = 80 by kernel_rfl] at h4
  obtain ⟨L, hl, hp⟩ := pick_list (n := len) (p := fun k (x : Fx) => (∃ g off, a = some ⟨g, off, none⟩ ∧ ∀ j v, (encF x)[j]? = some v → w.cell? ⟨g, off + k * 8 + j, none⟩ = some v) ∧
      (NumsAt .i64 w x.a x.f.bits ∧ (x.a = none → x.c = 0 ∧ x.f.bits.length = 0) ∧ x.f.bits.length * 8 ≤ 140737488351232) ∧ x.f.part ≤ 9223372036854775807 ∧ x.f.times ≤ 9223372036854775807) (fun i hi => by
    obtain ⟨b, off, ha, cs, hcl, hcell, hT⟩ := h5 i hi
    have f0 := hT.fld Try.underlying33 0 3 0 1 rfl cellsOf3
    have f1 := hT.fld Try.underlying33 1 3 1 1 rfl cellsOf3
    have f2 := hT.fld Try.underlying33 2 3 2 1 rfl cellsOf3
    have f3 := hT.fld Try.underlying33 3 3 3 1 rfl cellsOf3
    have f4 := hT.fld Try.underlying33 4 3 4 1 rfl cellsOf3
    have f5 := hT.fld Try.underlying33 5 3 5 1 rfl cellsOf3
    have f6 := hT.fld Try.underlying33 6 3 6 1 rfl cellsOf3
    have f7 := hT.fld Try.underlying33 7 23 7 1 rfl cellsOf23
    obtain ⟨x0, e0, w0⟩ := f0.int Try.underlying3
    obtain ⟨x1, e1, w1⟩ := f1.int Try.underlying3
    obtain ⟨x2, e2, w2⟩ := f2.int Try.underlying3
    obtain ⟨x3, e3, w3⟩ := f3.int Try.underlying3
    obtain ⟨x4, e4, w4⟩ := f4.int Try.underlying3
    obtain ⟨x5, e5, w5⟩ := f5.int Try.underlying3
    obtain ⟨x6, e6, w6⟩ := f6.int Try.underlying3
    obtain ⟨a', n', c', e7⟩ := f7.isSlice Try.underlying23
    rw [e7] at f7
    obtain ⟨d, hd, hn, hnil, hle, hcm, hby, hwf⟩ := f7.nums Try.underlying23 Try.underlying3 (by kernel_rfl)
    subst hd
    rw [bytesOf3] at hby
    refine ⟨⟨⟨x0, x1, x2, x3, x4, x5, x6, d, 0⟩, a', c'⟩, ⟨b, off, ha, ?_⟩, ⟨hn, hnil, by simp only; omega⟩, (wf_i64 w6).2, (wf_i64 w5).2⟩
    intro j v hj
    have hj8 : j < 8 := (List.getElem?_eq_some_iff.1 hj).1
    have hjc : j = 0 ∨ j = 1 ∨ j = 2 ∨ j = 3 ∨ j = 4 ∨ j = 5 ∨ j = 6 ∨ j = 7 := by omega
    rw [hcell j hj8]
    rcases hjc with rfl | rfl | rfl | rfl | rfl | rfl | rfl | rfl
    · cases hj; exact one_of_take e0
    · cases hj; exact one_of_take e1
    · cases hj; exact one_of_take e2
    · cases hj; exact one_of_take e3
    · cases hj; exact one_of_take e4
    · cases hj; exact one_of_take e5
    · cases hj; exact one_of_take e6
    · cases hj; exact one_of_take e7)
  have hq : ∀ k x, L[k]? = some x → _ := fun k x hk => by
    have hlt := (List.getElem?_eq_some_iff.1 hk).1
    have := hp k hlt
    rw [(List.getElem?_eq_some_iff.1 hk).2] at this
    exact this
  refine ⟨L, hl, ⟨fun k x hk => (hq k x hk).1, fun x hx => ?_, fun x hx => ?_⟩, by omega⟩
  · obtain ⟨k, hk⟩ := List.mem_iff_getElem?.1 hx
    exact (hq k x hk).2.1
  · obtain ⟨k, hk⟩ := List.mem_iff_getElem?.1 hx
    exact (hq k x hk).2.2
end Go.Proofs.Ytglpacdenfoicaa
