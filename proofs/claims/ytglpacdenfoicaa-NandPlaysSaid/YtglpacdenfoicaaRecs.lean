/- rows of records: each of k cells, told by enc -/
import Derived.Test.YtglpacdenfoicaaBase
namespace Go.Proofs.Ytglpacdenfoicaa
open Go.RowKit

def recs {α : Type} (enc : α → List Value) (L : List α) : List Value := L.flatMap enc
section
variable {α : Type} {enc : α → List Value} {k : Nat}
theorem recs_app (L M : List α) : recs enc (L ++ M) = recs enc L ++ recs enc M := by unfold recs; simp
theorem recs_one (x : α) : recs enc [x] = enc x := by simp [recs]
theorem recs_len (hk : ∀ x, (enc x).length = k) : ∀ L : List α, (recs enc L).length = L.length * k
  | [] => by simp [recs]
  | e :: r => by
    have ih := recs_len hk r
    unfold recs at ih ⊢
    rw [List.flatMap_cons, List.length_append, ih, List.length_cons, hk, Nat.add_mul]
    omega
theorem recs_get (hk : ∀ x, (enc x).length = k) : ∀ {L : List α} {j i : Nat} {x : α} {v : Value}, i < k → L[j]? = some x → (enc x)[i]? = some v → (recs enc L)[j * k + i]? = some v
  | [], j, i, x, v, _, h, _ => by simp at h
  | e :: r, 0, i, x, v, hi, h, hv => by
    simp at h; subst h
    unfold recs
    rw [List.flatMap_cons, List.getElem?_append_left (by rw [hk]; omega), Nat.zero_mul, Nat.zero_add]
    exact hv
  | e :: r, j + 1, i, x, v, hi, h, hv => by
    simp at h
    have ih := recs_get hk hi h hv
    unfold recs at ih ⊢
    rw [List.flatMap_cons, List.getElem?_append_right (by rw [hk, Nat.add_mul]; omega), hk, show (j + 1) * k + i - k = j * k + i by rw [Nat.add_mul]; omega]
    exact ih
theorem recs_set (hk : ∀ x, (enc x).length = k) : ∀ {L : List α} {j i : Nat} {x y : α} {v : Value}, i < k → L[j]? = some x → enc y = (enc x).set i v → (recs enc L).set (j * k + i) v = recs enc (L.set j y)
  | [], j, i, x, y, v, _, h, _ => by simp at h
  | e :: r, 0, i, x, y, v, hi, h, hv => by
    simp at h; subst h
    unfold recs
    rw [List.flatMap_cons, Nat.zero_mul, Nat.zero_add, List.set_append_left _ _ (by rw [hk]; omega), ← hv]
    simp
  | e :: r, j + 1, i, x, y, v, hi, h, hv => by
    simp at h
    have ih := recs_set hk hi h hv
    unfold recs at ih ⊢
    rw [List.flatMap_cons, List.set_append_right _ _ (by rw [hk, Nat.add_mul]; omega), hk, show (j + 1) * k + i - k = j * k + i by rw [Nat.add_mul]; omega, ih]
    simp

/-- The slice (a, L.length, cap) is the call's own row and holds the records L. -/
def RecRow (enc : α → List Value) (k : Nat) (w : World) (E : TypeId) (a : Option Addr) (cap : Nat) (L : List α) : Prop := RowAt w E k a L.length cap (recs enc L)
variable {w w' : World} {E : TypeId} {a : Option Addr} {cap : Nat} {L : List α}
theorem RecRow.keeps {S : Nat → Prop} (h : RecRow enc k w E a cap L) (hk : Keeps S w w') (hn : ∀ g, blk a = some g → ¬ S g) : RecRow enc k w' E a cap L := RowAt.keeps h hk hn
theorem RecRow.nil (w : World) (E : TypeId) : RecRow enc k w E none 0 [] := RowAt.nil w E k
theorem RecRow.nocap (h : RecRow enc k w E a cap L) : a = none → cap = 0 := by
  intro ha
  rcases RowAt.form h with ⟨_, _, h3⟩ | ⟨g, cur, h2, _⟩
  · exact h3
  · rw [h2] at ha; cases ha
theorem RecRow.cap_le (h : RecRow enc k w E a cap L) : L.length ≤ cap := by
  rcases RowAt.form h with ⟨_, h2, h3⟩ | ⟨g, cur, h2, h3, _⟩
  · omega
  · exact h3
theorem RecRow.at (h : RecRow enc k w E a cap L) (hl : 0 < L.length) : ∃ g, a = some ⟨g, 0, none⟩ ∧ g < w.heap.size := by
  rcases RowAt.form h with ⟨_, h2, _⟩ | ⟨g, cur, h2, _, hh, _⟩
  · omega
  · exact ⟨g, h2, lt_of_heap hh⟩
theorem RecRow.cell (h : RecRow enc k w E a cap L) (hk : ∀ x, (enc x).length = k) {j : Nat} {x : α} (hx : L[j]? = some x) : ∃ g, a = some ⟨g, 0, none⟩ ∧ g < w.heap.size ∧ (∀ o, w.frozen? ⟨g, o, none⟩ = false) ∧ ∀ i v, i < k → (enc x)[i]? = some v → w.cell? ⟨g, j * k + i, none⟩ = some v := by
  have hj : j < L.length := (List.getElem?_eq_some_iff.1 hx).1
  rcases RowAt.form h with ⟨_, h2, _⟩ | ⟨g, cur, ha, hn, hh, hs, ht⟩
  · omega
  · subst ha
    refine ⟨g, rfl, lt_of_heap hh, frozen_of_heap hh, fun i v hi hv => ?_⟩
    have := (RowAt.src h).2.2 ⟨g, 0, none⟩ rfl (j * k + i) v (recs_get hk hi hx hv)
    rw [Addr.add_lit, Nat.zero_add] at this
    exact this
theorem RecRow.srcTake (h : RecRow enc k w E a cap L) (hk : ∀ x, (enc x).length = k) {i : Nat} (hi : i ≤ L.length) : Src w a k i (recs enc (L.take i)) := by
  refine ⟨by rw [recs_len hk]; simp; rw [Nat.min_eq_left hi], fun ha => ?_, fun ad ha j u hu => ?_⟩
  · rcases RowAt.form h with ⟨_, h2, _⟩ | ⟨g, cur, h2, _⟩
    · omega
    · rw [h2] at ha; cases ha
  · refine (RowAt.src h).2.2 ad ha j u ?_
    rw [show recs enc L = recs enc (L.take i) ++ recs enc (L.drop i) by rw [← recs_app, List.take_append_drop], List.getElem?_append_left]
    · exact hu
    · exact (List.getElem?_eq_some_iff.1 hu).1
theorem RecRow.srcDrop {g : Nat} (h : RecRow enc k w E (some ⟨g, 0, none⟩) cap L) (hk : ∀ x, (enc x).length = k) {i : Nat} (hi : i ≤ L.length) : Src w (some ⟨g, i * k, none⟩) k (L.length - i) (recs enc (L.drop i)) := by
  refine ⟨by rw [recs_len hk]; simp, (fun ha => by cases ha), fun ad ha j u hu => ?_⟩
  cases ha
  have h2 := (RowAt.src h).2.2 ⟨g, 0, none⟩ rfl (i * k + j) u (by
    have el : (recs enc (L.take i)).length = i * k := by rw [recs_len hk]; simp; rw [Nat.min_eq_left hi]
    rw [show recs enc L = recs enc (L.take i) ++ recs enc (L.drop i) by rw [← recs_app, List.take_append_drop], List.getElem?_append_right (by rw [el]; omega), el, show i * k + j - i * k = j by omega]
    exact hu)
  rw [Addr.add_lit] at h2 ⊢
  rw [Nat.zero_add] at h2
  exact h2
end
theorem src_none {w : World} (a : Option Addr) (k : Nat) : Src w a k 0 [] := ⟨by simp, fun _ => rfl, fun ad ha j u hu => by simp at hu⟩

/-- a cell of a row of the call's own is written -/
theorem RowAt.setCell {w : World} {e : TypeId} {size n cap g o : Nat} {xs : List Value} (h : RowAt w e size (some ⟨g, 0, none⟩) n cap xs) (v : Value) : RowAt (w.setCell ⟨g, o, none⟩ v) e size (some ⟨g, 0, none⟩) n cap (xs.set o v) := by
  refine ⟨by rw [List.length_set]; exact h.1, ?_⟩
  rcases h.2 with ⟨h2, _⟩ | ⟨g', cap', cur, hv, hb, hh, r1, r2, r3, r4⟩
  · cases h2
  · simp only [Value.slice.injEq, Option.some.injEq, Addr.mk.injEq] at hv
    obtain ⟨⟨rfl, _, _⟩, _, rfl⟩ := hv
    refine .inr ⟨g, cap, _, rfl, hb, heap_setCell_same hh o v, r1, r2, by simpa using r3, ?_⟩
    rw [Array.toList_setIfInBounds, List.take_set, r4]
theorem RecRow.setField {α : Type} {enc : α → List Value} {k : Nat} {w : World} {E : TypeId} {g cap : Nat} {L : List α} (h : RecRow enc k w E (some ⟨g, 0, none⟩) cap L) (hk : ∀ x, (enc x).length = k) {j i : Nat} {x y : α} {v : Value} (hi : i < k) (hx : L[j]? = some x) (hv : enc y = (enc x).set i v) :
    RecRow enc k (w.setCell ⟨g, j * k + i, none⟩ v) E (some ⟨g, 0, none⟩) cap (L.set j y) := by
  unfold RecRow
  rw [List.length_set, ← recs_set hk hi hx hv]
  exact RowAt.setCell h v
end Go.Proofs.Ytglpacdenfoicaa
