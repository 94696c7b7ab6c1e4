/- SpacePlays: the script that comes in; a table beside the reference's -/
import Derived.Test.YtmdgbcbnciaikaaZ
import Derived.Test.YtmdgbcbnciaikaaR
import Derived.Test.YtmdgbcbnciaikaaTree
namespace Go.Proofs.Ytmdgbcbnciaikaa
open Go.ChangeShapes Go.WideShapes Go.ChangeAt Go.RowKit Go.Deep

structure OpR where
  kind : Int
  id : Int
  size : Int
  lba : Int
  r : Rec
def opC (o : OpR) : Array Value := #[.int .i64 o.kind, .int .i64 o.id, .int .i64 o.size, .int .u64 o.lba, .int .i64 o.r.kind, .int .u64 o.r.seq, .int .u64 o.r.a, .int .u64 o.r.b, .int .u64 o.r.c]
structure OpOk (o : OpR) : Prop where
  kind : -9223372036854775808 ≤ o.kind ∧ o.kind ≤ 9223372036854775807
  id : -9223372036854775808 ≤ o.id ∧ o.id ≤ 9223372036854775807
  size : -9223372036854775808 ≤ o.size ∧ o.size ≤ 9223372036854775807
  lba : 0 ≤ o.lba ∧ o.lba ≤ 18446744073709551615
  r : RecOk o.r
def OpAt (w : World) (b off : Nat) (o : OpR) : Prop := ∀ j v, (opC o)[j]? = some v → w.cell? ⟨b, off + j, none⟩ = some v
def OpsAt (w : World) (a : Option Addr) (n : Nat) (l : Nat → OpR) : Prop := ∀ j, j < n → ∃ b off, a = some ⟨b, off, none⟩ ∧ OpAt w b (off + j * 9) (l j)
theorem OpsAt.keeps {w w' : World} {a : Option Addr} {n : Nat} {l : Nat → OpR} (h : OpsAt w a n l) (hk : Keeps Nil w w') : OpsAt w' a n l := fun j hj =>
  let ⟨b, off, h1, h2⟩ := h j hj
  ⟨b, off, h1, fun i v hv => hk.cell (h2 i v hv) (fun h => h)⟩

theorem nested_take {cs : List Value} {o n i : Nat} {v : Value} (h : (((cs.drop o).take n).drop i).take 1 = [v]) : cs[o + i]? = some v := by
  have h1 := one_of_take h
  rw [List.getElem?_take] at h1
  split at h1
  · rw [List.getElem?_drop] at h1; exact h1
  · cases h1
theorem cells3' : Try.prog.cellsOf 3 = 1 := by kernel_rfl
theorem cells38 : Try.prog.cellsOf 38 = 1 := by kernel_rfl
theorem cells48 : Try.prog.cellsOf 48 = 5 := by kernel_rfl
theorem arg_ops {H : Type} {enc : TypeId × Value → H} {w : World} {a : Option Addr} {len cap : Nat} (h : Trd enc Try.prog w 43 [.slice a len cap]) :
    ∃ l : Nat → OpR, OpsAt w a len l ∧ (∀ j, j < len → OpOk (l j)) ∧ len ≤ maxLen := by
  obtain ⟨h1, h2, h3, h4, h5⟩ := h.slice 9 Try.underlying43 (by kernel_rfl) (by decide)
  obtain ⟨L, hl, hp⟩ := pick_list (n := len) (p := fun i (o : OpR) => OpOk o ∧ ∃ b off, a = some ⟨b, off, none⟩ ∧ OpAt w b (off + i * 9) o) (fun i hi => by
    obtain ⟨b, off, ha, cs, hcl, hcell, hT⟩ := h5 i hi
    obtain ⟨x0, e0, w0⟩ := (hT.fld Try.underlying50 0 3 0 1 rfl cells3').int Try.underlying3
    obtain ⟨x1, e1, w1⟩ := (hT.fld Try.underlying50 1 3 1 1 rfl cells3').int Try.underlying3
    obtain ⟨x2, e2, w2⟩ := (hT.fld Try.underlying50 2 3 2 1 rfl cells3').int Try.underlying3
    obtain ⟨x3, e3, w3⟩ := (hT.fld Try.underlying50 3 38 3 1 rfl cells38).int Try.underlying38
    have hr := hT.fld Try.underlying50 4 48 4 5 rfl cells48
    obtain ⟨y0, d0, v0⟩ := (hr.fld Try.underlying48 0 3 0 1 rfl cells3').int Try.underlying3
    obtain ⟨y1, d1, v1⟩ := (hr.fld Try.underlying48 1 38 1 1 rfl cells38).int Try.underlying38
    obtain ⟨y2, d2, v2⟩ := (hr.fld Try.underlying48 2 38 2 1 rfl cells38).int Try.underlying38
    obtain ⟨y3, d3, v3⟩ := (hr.fld Try.underlying48 3 38 3 1 rfl cells38).int Try.underlying38
    obtain ⟨y4, d4, v4⟩ := (hr.fld Try.underlying48 4 38 4 1 rfl cells38).int Try.underlying38
    have b0 := wf_i64 v0
    have b2 := wf_u64 v2
    have b3 := wf_u64 v3
    have b4 := wf_u64 v4
    refine ⟨⟨x0, x1, x2, x3, ⟨y0, y1, y2, y3, y4⟩⟩, ⟨wf_i64 w0, wf_i64 w1, wf_i64 w2, wf_u64 w3, ⟨b0.1, b0.2, b2.1, by show y2 < _; omega, b3.1, by show y3 < _; omega, b4.1, by show y4 < _; omega⟩⟩, b, off, ha, ?_⟩
    intro j v hv
    have hj : j < 9 := by have := (Array.getElem?_eq_some_iff.1 hv).1; simpa [opC] using this
    rw [hcell j hj, ← hv]
    match j, hj with
    | 0, _ => exact one_of_take e0
    | 1, _ => exact one_of_take e1
    | 2, _ => exact one_of_take e2
    | 3, _ => exact one_of_take e3
    | 4, _ => exact nested_take (o := 4) (i := 0) d0
    | 5, _ => exact nested_take (o := 4) (i := 1) d1
    | 6, _ => exact nested_take (o := 4) (i := 2) d2
    | 7, _ => exact nested_take (o := 4) (i := 3) d3
    | 8, _ => exact nested_take (o := 4) (i := 4) d4)
  refine ⟨fun j => if hj : j < L.length then L[j] else ⟨0, 0, 0, 0, ⟨0, 0, 0, 0, 0⟩⟩, fun j hj => ?_, fun j hj => ?_, by omega⟩
  · have := (hp j (by omega)).2
    simp only [show j < L.length by omega, dif_pos]
    exact this
  · simp only [show j < L.length by omega, dif_pos]
    exact (hp j (by omega)).1

/-- the table at tb has T, the reference's at rb has R -/
structure Two (w w' : World) (tb rb ob : Nat) (z : Int) (T R : List Spc) : Prop where
  t : SpIn w w' tb z T
  r : RIn w' rb ob z R
  n1 : rb ≠ tb
  n2 : ob ≠ tb
  g2 : w.heap.size ≤ ob
theorem Two.same {w w1 w2 : World} {tb rb ob : Nat} {z : Int} {T R : List Spc} (h : Two w w1 tb rb ob z T R) (hk : Keeps Nil w1 w2) : Two w w2 tb rb ob z T R := ⟨h.t.same hk, h.r.same hk, h.n1, h.n2, h.g2⟩
theorem Two.tstep {w w1 w2 : World} {tb rb ob : Nat} {z : Int} {T R T' : List Spc} (h : Two w w1 tb rb ob z T R) (ht : SpIn w w2 tb z T') (hk : Keeps (· = tb) w1 w2) : Two w w2 tb rb ob z T' R := ⟨ht, h.r.other hk h.n1 h.n2, h.n1, h.n2, h.g2⟩
theorem Two.rstep {w w1 w2 : World} {tb rb ob : Nat} {z : Int} {T R R' : List Spc} (h : Two w w1 tb rb ob z T R) (hr : RIn w2 rb ob z R') (hk : Keeps (· = ob) w1 w2) : Two w w2 tb rb ob z T R' :=
  ⟨h.t.other hk (fun e => h.n2 e.symm) (fun k e => by rw [e]; exact h.g2), hr, h.n1, h.n2, h.g2⟩
theorem Two.ltt {w w1 : World} {tb rb ob : Nat} {z : Int} {T R : List Spc} (h : Two w w1 tb rb ob z T R) : tb < w1.heap.size ∧ ob < w1.heap.size := ⟨lt_of_heap h.t.at_, h.r.lt.2⟩
end Go.Proofs.Ytmdgbcbnciaikaa
