/- arguments opened: slices of numbers, of bools, of slices of bools. -/
import Derived.Test.YtglpacdenfoicaaBase
import Derived.ProofKit
import Derived.SizedLaws
import Derived.OpenShut
import Derived.Deep.Grids
namespace Go.Proofs.Ytglpacdenfoicaa
open Go.ChangeShapes Go.WideShapes Go.ChangeAt Go.RowKit Go.Deep

section
variable {H : Type} {enc : TypeId × Value → H} {P : Program} {w : World}

theorem int_bounds {x : Int} (h : (Lit.int .i64 x).wf = true) : -9223372036854775808 ≤ x ∧ x ≤ 9223372036854775807 := by
  simp only [Lit.wf, Bool.and_eq_true, decide_eq_true_eq] at h
  exact h
theorem addr_plain {a : Addr} {v : Value} (h : w.cell? (a.add 0) = some v) : a = ⟨a.block, a.off, none⟩ := by
  cases a with
  | mk b o s =>
    cases s with
    | none => rfl
    | some x =>
      have e : (⟨b, o, some x⟩ : Addr).add 0 = ⟨b, o, some x⟩ := rfl
      rw [e] at h
      simp only [World.cell?] at h
      split at h
      · simp at h
      · cases h

theorem bytes_of_sized {t e : TypeId} {ts : List TypeId} {ds : List (DataW H)} {elems spare : List (DataW H)} (h : (DataW.weightsEach P ts ds).all (· ≤ reachBytes) = true) {j : Nat} (ht : ts[j]? = some t) (hd : ds[j]? = some (.slice elems spare)) (hu : P.underlying t = some (.slice e)) :
    (elems.length + spare.length) * P.bytesOf e ≤ 140737488351232 := sized_slice h ht hd hu

/-- A slice of int that came in. -/
theorem arg_ints {t e : TypeId} {a : Option Addr} {len cap : Nat} {d : DataW H} {ps : List MemPlace} (ht : P.underlying t = some (.slice e)) (he : P.underlying e = some (.int .i64)) (hc : P.cellsOf e = 1)
    (h : DataW.Trod enc P w 0 (fun _ => true) true t (.slice a len cap) d ps) :
    ∃ xs : List Int, xs.length = len ∧ IntsAt w a xs ∧ (a = none → cap = 0 ∧ len = 0) ∧ len ≤ cap ∧ cap ≤ maxLen ∧ (∀ j, j < len → -9223372036854775808 ≤ gi xs j ∧ gi xs j ≤ 9223372036854775807) ∧
      (d = .nil ∧ cap = 0 ∨ ∃ elems spare, d = .slice elems spare ∧ elems.length + spare.length = cap) := by
  obtain ⟨fuel, hf⟩ := h
  rcases open_ints ht he hc hf with ⟨hcs, hx⟩ | ⟨x, l, c, zs, hcs, _, hl, hm, hz, hx, hcell, hwz⟩
  · simp [Value.cells] at hcs
    obtain ⟨rfl, rfl, rfl⟩ := hcs
    simp only [Prod.mk.injEq] at hx
    exact ⟨[], rfl, (fun j hj => by cases hj), fun _ => ⟨rfl, rfl⟩, Nat.le_refl _, Nat.zero_le _, (fun j hj => by omega), .inl ⟨hx.1, rfl⟩⟩
  · simp [Value.cells] at hcs
    obtain ⟨rfl, rfl, rfl⟩ := hcs
    simp only [if_true] at hz
    have hlen : (zs.take len).length = len := by simp; omega
    have hg : ∀ j, j < len → gi (zs.take len) j = zs.getD j 0 := fun j hj => by simp [gi, List.getD, hj]
    refine ⟨zs.take len, hlen, ?_, (fun h => by cases h), hl, hm, ?_, ?_⟩
    · intro j hj
      rw [hlen] at hj
      have := hcell j (by omega)
      have hx0 := addr_plain (hcell 0 (by omega))
      refine ⟨x.block, x.off, by rw [hx0], ?_⟩
      rw [hg j hj, ← this]
      conv => rhs; rw [hx0, Addr.add_lit]
    · intro j hj
      rw [hg j hj]
      have hm2 : zs.getD j 0 ∈ zs := by
        have e : zs.getD j 0 = zs[j]'(by omega) := by simp [List.getD, show j < zs.length by omega]
        rw [e]; exact List.getElem_mem _
      have := hwz _ hm2
      simp only [Lit.wf, Bool.and_eq_true, decide_eq_true_eq] at this
      exact this
    · right
      simp only [Prod.mk.injEq] at hx
      exact ⟨_, _, hx.1, by simp [lits]; omega⟩

theorem arg_bools {a : Option Addr} {len cap : Nat} {B : Nat → Bool} (hl : len ≤ cap) (hc : ∀ x, a = some x → ∀ c, c < cap → w.cell? (x.add c) = some (.bool (B c))) (hn : a = none → cap = 0) :
    BoolsAt w a ((List.range len).map B) := by
  intro j hj
  simp at hj
  cases a with
  | none => have := hn rfl; omega
  | some x =>
    have := hc x rfl j (by omega)
    have hx0 := addr_plain (hc x rfl 0 (by omega))
    refine ⟨x.block, x.off, by rw [hx0], ?_⟩
    have hg : gb ((List.range len).map B) j = B j := by simp [gb, List.getD, hj]
    rw [hg, ← this]
    conv => rhs; rw [hx0, Addr.add_lit]

theorem one_of_take {cs : List Value} {o : Nat} {v : Value} (h : (cs.drop o).take 1 = [v]) : cs[o]? = some v := by
  have h2 : ((cs.drop o).take 1)[0]? = some v := by rw [h]; rfl
  simpa using h2
/-- a field that is a number -/
theorem fld_int {base : Nat} {spare : Nat → Bool} {held : Bool} {n : Nat} {ft : TypeId} {k : IntKind} {cs : List Value} {o i : Nat} {xs : List (DataW H × List MemPlace)} (he : P.underlying ft = some (.int k)) (hc : P.cellsOf ft = 1) (hi : i < xs.length)
    (hf : DataW.trod enc P w base spare held n ft ((cs.drop o).take (P.cellsOf ft)) = xs[i]?) : ∃ x, cs[o]? = some (.int k x) ∧ (Lit.int k x).wf = true := by
  rw [List.getElem?_eq_getElem hi] at hf
  obtain ⟨x, h1, _, h2⟩ := DataW.trod_int he hf
  rw [hc] at h1
  exact ⟨x, one_of_take h1, h2⟩
theorem fld_bool {base : Nat} {spare : Nat → Bool} {held : Bool} {n : Nat} {ft : TypeId} {cs : List Value} {o i : Nat} {xs : List (DataW H × List MemPlace)} (he : P.underlying ft = some .bool) (hc : P.cellsOf ft = 1) (hi : i < xs.length)
    (hf : DataW.trod enc P w base spare held n ft ((cs.drop o).take (P.cellsOf ft)) = xs[i]?) : ∃ x, cs[o]? = some (.bool x) := by
  rw [List.getElem?_eq_getElem hi] at hf
  obtain ⟨x, h1, _⟩ := DataW.trod_bool he hf
  rw [hc] at h1
  exact ⟨x, one_of_take h1⟩
theorem wf_i64 {x : Int} (h : (Lit.int .i64 x).wf = true) : -9223372036854775808 ≤ x ∧ x ≤ 9223372036854775807 := int_bounds h
theorem wf_u32 {x : Int} (h : (Lit.int .u32 x).wf = true) : 0 ≤ x ∧ x ≤ 4294967295 := by
  simp only [Lit.wf, Bool.and_eq_true, decide_eq_true_eq] at h
  exact h
theorem wf_u64 {x : Int} (h : (Lit.int .u64 x).wf = true) : 0 ≤ x ∧ x ≤ 18446744073709551615 := by
  simp only [Lit.wf, Bool.and_eq_true, decide_eq_true_eq] at h
  exact h
theorem wf_u8 {x : Int} (h : (Lit.int .u8 x).wf = true) : 0 ≤ x ∧ x ≤ 255 := by
  simp only [Lit.wf, Bool.and_eq_true, decide_eq_true_eq] at h
  exact h

/-- A slice of whatever that came in: its shape, its length, and of each element its cells and its reading. -/
theorem arg_slice {t e : TypeId} {a : Option Addr} {len cap : Nat} {d : DataW H} {ps : List MemPlace} (C : Nat) (ht : P.underlying t = some (.slice e)) (hc : P.cellsOf e = C) (hC : 0 < C)
    (h : DataW.Trod enc P w 0 (fun _ => true) true t (.slice a len cap) d ps) :
    (a = none → cap = 0 ∧ len = 0) ∧ len ≤ cap ∧ cap ≤ maxLen ∧
      (d = .nil ∧ cap = 0 ∨ ∃ elems spare, d = .slice elems spare ∧ elems.length + spare.length = cap) ∧
      ∃ n, ∀ i, i < len → ∃ b off, a = some ⟨b, off, none⟩ ∧ ∃ (cs : List Value) (x : DataW H × List MemPlace), cs.length = C ∧ (∀ j, j < C → w.cell? ⟨b, off + i * C + j, none⟩ = cs[j]?) ∧ DataW.trod enc P w 0 (fun _ => true) true n e cs = some x := by
  obtain ⟨fuel, hf⟩ := h
  rcases open_slice ht hf with ⟨hcs, hx⟩ | ⟨x, l, c, m, n, D, Pl, hcs, _, hl, hm, hmm, hx, hi⟩
  · simp [Value.cells] at hcs
    obtain ⟨rfl, rfl, rfl⟩ := hcs
    simp only [Prod.mk.injEq] at hx
    exact ⟨fun _ => ⟨rfl, rfl⟩, Nat.le_refl _, Nat.zero_le _, .inl ⟨hx.1, rfl⟩, 0, (fun i hi => by omega)⟩
  · simp [Value.cells] at hcs
    obtain ⟨rfl, rfl, rfl⟩ := hcs
    simp only [if_true] at hmm
    refine ⟨(fun h => by cases h), hl, hm, .inr ⟨_, _, (Prod.mk.inj hx).1, by simp; omega⟩, n, fun i hi2 => ?_⟩
    have h0 : x = ⟨x.block, x.off, none⟩ := by
      obtain ⟨cs0, hc0, _⟩ := hi 0 (by omega)
      obtain ⟨_, hl0, hat⟩ := World.cells?_some hc0
      have := hat 0 (by rw [hc]; exact hC)
      rw [Nat.zero_mul] at this
      have e : (x.add 0).add 0 = x.add 0 := rfl
      rw [e] at this
      have hz : cs0[0]? = some (cs0[0]'(by rw [hl0, hc]; exact hC)) := List.getElem?_eq_getElem _
      rw [hz] at this
      exact addr_plain this
    obtain ⟨cs, hcs, ht2⟩ := hi i (by omega)
    obtain ⟨_, hl2, hat⟩ := World.cells?_some hcs
    refine ⟨x.block, x.off, by rw [← h0], cs, _, by rw [hl2, hc], fun j hj => ?_, ht2⟩
    rw [← hat j (by rw [hc]; exact hj), hc]
    conv => rhs; rw [h0]
    rw [Addr.add_lit, Addr.add_lit]
end
end Go.Proofs.Ytglpacdenfoicaa
