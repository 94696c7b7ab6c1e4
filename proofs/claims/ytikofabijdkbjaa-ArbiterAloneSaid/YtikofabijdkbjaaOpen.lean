/- arguments opened: slices of numbers, of bools, of slices of bools. -/
import Derived.Test.YtikofabijdkbjaaBase
import Derived.ProofKit
import Derived.SizedLaws
import Derived.OpenShut
import Derived.Deep.Grids
namespace Go.Proofs.Ytikofabijdkbjaa
open Go.ChangeShapes Go.WideShapes Go.ChangeAt Go.RowKit Go.Deep

section
variable {H : Type} {enc : TypeId × Value → H} {P : Program} {w : World}

theorem int_bounds {x : Int} (h : (Lit.int .i64 x).wf = true) : -9223372036854775808 ≤ x ∧ x ≤ 9223372036854775807 := by
  simp only [Lit.wf, Bool.and_eq_true, decide_eq_true_eq] at h
  exact h
theorem addr_plain {a : Addr} {v : Value} (h : w.cell? (a.add 0) = some v) : a = ⟨a.block, a.off, none⟩ := by
  cases a with
  | mk b o s =>
    cases s with
    | none => rfl
    | some x =>
      have e : (⟨b, o, some x⟩ : Addr).add 0 = ⟨b, o, some x⟩ := rfl
      rw [e] at h
      simp only [World.cell?] at h
      split at h
      · simp at h
      · cases h

theorem bytes_of_sized {t e : TypeId} {ts : List TypeId} {ds : List (DataW H)} {elems spare : List (DataW H)} (h : (DataW.weightsEach P ts ds).all (· ≤ reachBytes) = true) {j : Nat} (ht : ts[j]? = some t) (hd : ds[j]? = some (.slice elems spare)) (hu : P.underlying t = some (.slice e)) :
    (elems.length + spare.length) * P.bytesOf e ≤ 140737488351232 := sized_slice h ht hd hu

/-- A slice of int that came in. -/
theorem arg_ints {t e : TypeId} {a : Option Addr} {len cap : Nat} {d : DataW H} {ps : List MemPlace} (ht : P.underlying t = some (.slice e)) (he : P.underlying e = some (.int .i64)) (hc : P.cellsOf e = 1)
    (h : DataW.Trod enc P w 0 (fun _ => true) true t (.slice a len cap) d ps) :
    ∃ xs : List Int, xs.length = len ∧ IntsAt w a xs ∧ (a = none → cap = 0 ∧ len = 0) ∧ len ≤ cap ∧ cap ≤ maxLen ∧ (∀ j, j < len → -9223372036854775808 ≤ gi xs j ∧ gi xs j ≤ 9223372036854775807) ∧
      (d = .nil ∧ cap = 0 ∨ ∃ elems spare, d = .slice elems spare ∧ elems.length + spare.length = cap) := by
  obtain ⟨fuel, hf⟩ := h
  rcases open_ints ht he hc hf with ⟨hcs, hx⟩ | ⟨x, l, c, zs, hcs, _, hl, hm, hz, hx, hcell, hwz⟩
  · simp [Value.cells] at hcs
    obtain ⟨rfl, rfl, rfl⟩ := hcs
    simp only [Prod.mk.injEq] at hx
    exact ⟨[], rfl, (fun j hj => by cases hj), fun _ => ⟨rfl, rfl⟩, Nat.le_refl _, Nat.zero_le _, (fun j hj => by omega), .inl ⟨hx.1, rfl⟩⟩
  · simp [Value.cells] at hcs
    obtain ⟨rfl, rfl, rfl⟩ := hcs
    simp only [if_true] at hz
    have hlen : (zs.take len).length = len := by simp; omega
    have hg : ∀ j, j < len → gi (zs.take len) j = zs.getD j 0 := fun j hj => by simp [gi, List.getD, hj]
    refine ⟨zs.take len, hlen, ?_, (fun h => by cases h), hl, hm, ?_, ?_⟩
    · intro j hj
      rw [hlen] at hj
      have := hcell j (by omega)
      have hx0 := addr_plain (hcell 0 (by omega))
      refine ⟨x.block, x.off, by rw [hx0], ?_⟩
      rw [hg j hj, ← this]
      conv => rhs; rw [hx0, Addr.add_lit]
    · intro j hj
      rw [hg j hj]
      have hm2 : zs.getD j 0 ∈ zs := by
        have e : zs.getD j 0 = zs[j]'(by omega) := by simp [List.getD, show j < zs.length by omega]
        rw [e]; exact List.getElem_mem _
      have := hwz _ hm2
      simp only [Lit.wf, Bool.and_eq_true, decide_eq_true_eq] at this
      exact this
    · right
      simp only [Prod.mk.injEq] at hx
      exact ⟨_, _, hx.1, by simp [lits]; omega⟩

theorem arg_bools {a : Option Addr} {len cap : Nat} {B : Nat → Bool} (hl : len ≤ cap) (hc : ∀ x, a = some x → ∀ c, c < cap → w.cell? (x.add c) = some (.bool (B c))) (hn : a = none → cap = 0) :
    BoolsAt w a ((List.range len).map B) := by
  intro j hj
  simp at hj
  cases a with
  | none => have := hn rfl; omega
  | some x =>
    have := hc x rfl j (by omega)
    have hx0 := addr_plain (hc x rfl 0 (by omega))
    refine ⟨x.block, x.off, by rw [hx0], ?_⟩
    have hg : gb ((List.range len).map B) j = B j := by simp [gb, List.getD, hj]
    rw [hg, ← this]
    conv => rhs; rw [hx0, Addr.add_lit]
end
end Go.Proofs.Ytikofabijdkbjaa
