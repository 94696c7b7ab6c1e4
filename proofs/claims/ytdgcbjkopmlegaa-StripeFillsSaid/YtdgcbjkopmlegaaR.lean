/- stripe: leaves together, column by column: the plain law -/
import Derived.Test.YtdgcbjkopmlegaaN
import Derived.Test.YtdgcbjkopmlegaaH
namespace Go.Proofs.Ytdgcbjkopmlegaa
open Go.RowKit

def sAt (x : Lf) (i : Nat) : Sl := x.sl.getD i sl0
def bAt (x : Lf) (i : Nat) : List Int := x.se.getD i []
theorem sAt_eq {x : Lf} {i : Nat} (h : i < x.sl.length) : sAt x i = x.sl[i] := by simp [sAt, List.getD, h]
theorem bAt_eq {x : Lf} {i : Nat} (h : i < x.se.length) : bAt x i = x.se[i] := by simp [bAt, List.getD, h]
/-- what stands at one place of the leaves -/
def colS (Ls : List Lf) (i : Nat) : Sl := Ls.foldl (fun s x => slXor s (sAt x i)) sl0
def colB (S : Nat) (Ls : List Lf) (i : Nat) : List Int := Ls.foldl (fun b x => addTo .u8 b (bAt x i)) (zeroD S)
/-- the first q places -/
def colL (S : Nat) (Ls : List Lf) (q : Nat) : Lf := ⟨(List.range q).map (colS Ls), (List.range q).map (colB S Ls)⟩
theorem colL_slots (S : Nat) (Ls : List Lf) (q : Nat) : (colL S Ls q).sl.length = q := by simp [colL]
theorem colL_secs (S : Nat) (Ls : List Lf) (q : Nat) : (colL S Ls q).se.length = q := by simp [colL]
theorem colL_zero (S : Nat) (Ls : List Lf) : colL S Ls 0 = ⟨[], []⟩ := rfl
theorem colL_step (S : Nat) (Ls : List Lf) (q : Nat) : (⟨(colL S Ls q).sl ++ [colS Ls q], (colL S Ls q).se ++ [colB S Ls q]⟩ : Lf) = colL S Ls (q + 1) := by
  simp [colL, List.range_succ]
theorem colS_step {Ls : List Lf} {q : Nat} (i : Nat) (h : q < Ls.length) : slXor (colS (Ls.take q) i) (sAt Ls[q] i) = colS (Ls.take (q + 1)) i := by
  unfold colS
  rw [List.take_succ_eq_append_getElem h, List.foldl_append]; rfl
theorem colB_step {Ls : List Lf} {q : Nat} (S i : Nat) (h : q < Ls.length) : addTo .u8 (colB S (Ls.take q) i) (bAt Ls[q] i) = colB S (Ls.take (q + 1)) i := by
  unfold colB
  rw [List.take_succ_eq_append_getElem h, List.foldl_append]; rfl
theorem foldB_len (i : Nat) : ∀ (Ls : List Lf) (b : List Int), (Ls.foldl (fun b x => addTo .u8 b (bAt x i)) b).length = b.length
  | [], _ => rfl
  | x :: r, b => by rw [List.foldl_cons, foldB_len i r, addTo_len]
theorem colB_len (S : Nat) (Ls : List Lf) (i : Nat) : (colB S Ls i).length = S := by
  unfold colB; rw [foldB_len]; simp [zeroD]

theorem zipTo_get {α β : Type} (f : α → β → α) : ∀ (ys : List α) (xs : List β), ys.length = xs.length → ∀ (i : Nat) (d : α) (e : β), i < ys.length → (zipTo f ys xs).getD i d = f (ys.getD i d) (xs.getD i e)
  | [], _, _, i, _, _, h => by simp at h
  | y :: ys, [], h, _, _, _, _ => by simp at h
  | y :: ys, x :: xs, _, 0, _, _, _ => rfl
  | y :: ys, x :: xs, h, i + 1, d, e, hi => by
    simp only [zipTo, List.getD_cons_succ]
    exact zipTo_get f ys xs (by simpa using h) i d e (by simpa using hi)
theorem sumL_cols {n : Nat} : ∀ (Ls : List Lf) (y : Lf), (∀ x ∈ Ls, x.sl.length = n ∧ x.se.length = n) → y.sl.length = n → y.se.length = n → ∀ i, i < n →
    sAt (Ls.foldl joinLf y) i = Ls.foldl (fun s x => slXor s (sAt x i)) (sAt y i) ∧ bAt (Ls.foldl joinLf y) i = Ls.foldl (fun b x => addTo .u8 b (bAt x i)) (bAt y i)
  | [], y, _, _, _, i, _ => ⟨rfl, rfl⟩
  | x :: r, y, h, h1, h2, i, hi => by
    obtain ⟨e1, e2⟩ := h x (by simp)
    obtain ⟨a, b⟩ := sumL_cols r (joinLf y x) (fun z hz => h z (List.mem_cons_of_mem _ hz)) ((joinLf_len y x).1.trans h1) ((joinLf_len y x).2.trans h2) i hi
    rw [List.foldl_cons, List.foldl_cons, List.foldl_cons, a, b]
    have s1 : sAt (joinLf y x) i = slXor (sAt y i) (sAt x i) := zipTo_get slXor y.sl x.sl (by omega) i sl0 sl0 (by omega)
    have s2 : bAt (joinLf y x) i = addTo .u8 (bAt y i) (bAt x i) := zipTo_get (addTo .u8) y.se x.se (by omega) i [] [] (by omega)
    rw [s1, s2]
    exact ⟨rfl, rfl⟩
theorem sumL_secs (S n : Nat) (Ls : List Lf) : (sumL S n Ls).se.length = n := by
  have h : ∀ (Ls : List Lf) (y : Lf), (Ls.foldl joinLf y).se.length = y.se.length := by
    intro Ls
    induction Ls with
    | nil => intro y; rfl
    | cons x r ih => intro y; rw [List.foldl_cons, ih, (joinLf_len y x).2]
  unfold sumL
  rw [h]
  simp [zeroLf]
/-- leaves together are as column by column -/
theorem sumL_colL {S n : Nat} {Ls : List Lf} (h : ∀ x ∈ Ls, x.sl.length = n ∧ x.se.length = n) : sumL S n Ls = colL S Ls n := by
  have hc := sumL_cols Ls (zeroLf S n) h (by simp [zeroLf]) (by simp [zeroLf])
  have e1 : (sumL S n Ls).sl = (colL S Ls n).sl := by
    apply List.ext_getElem
    · rw [sumL_slots, colL_slots]
    · intro i h1 h2
      rw [sumL_slots] at h1
      have := (hc i h1).1
      have e : sAt (sumL S n Ls) i = _ := sAt_eq (by rw [sumL_slots]; exact h1)
      rw [← e]
      show sAt (Ls.foldl joinLf (zeroLf S n)) i = _
      rw [this]
      simp [colL, colS, sAt, zeroLf, h1]
  have e2 : (sumL S n Ls).se = (colL S Ls n).se := by
    apply List.ext_getElem
    · rw [sumL_secs, colL_secs]
    · intro i h1 h2
      rw [sumL_secs] at h1
      have := (hc i h1).2
      have e : bAt (sumL S n Ls) i = _ := bAt_eq (by rw [sumL_secs]; exact h1)
      rw [← e]
      show bAt (Ls.foldl joinLf (zeroLf S n)) i = _
      rw [this]
      simp [colL, colB, bAt, zeroLf, h1]
  cases hs : sumL S n Ls with
  | mk a b =>
    rw [hs] at e1 e2
    simp only at e1 e2
    rw [e1, e2]

/-- what the reference's call answers that makes a leaf, or none -/
def RefOut (w : World) (n : Nat) (r : Option Lf) (e : Ending) (w' : World) : Prop :=
  (r = none ∧ e = .returned (.tuple #[.agg #[.slice none 0 0, .slice none 0 0], .int .i64 1]) ∧ Keeps Nil w w') ∨
  ∃ x sa sc ba bc Z, r = some x ∧ e = .returned (.tuple #[.agg #[.slice sa n sc, .slice ba n bc], .int .i64 0]) ∧ LfZ w' sa ba x Z ∧ (∀ k, Z k → w.heap.size ≤ k) ∧ x.sl.length = n ∧ x.se.length = n ∧ Keeps Nil w w'
end Go.Proofs.Ytdgcbjkopmlegaa
