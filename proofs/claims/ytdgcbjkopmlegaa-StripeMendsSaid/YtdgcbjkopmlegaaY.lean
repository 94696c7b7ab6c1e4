/- StripeMends: the plain law: a row with its parity is nought together -/
import Derived.Test.YtdgcbjkopmlegaaW2
import Derived.Test.YtdgcbjkopmlegaaW3
namespace Go.Proofs.Ytdgcbjkopmlegaa
open Go.RowKit

def empH : LH := ⟨⟨[], []⟩, none, 0, none, 0⟩
def plc (p j : Nat) : Nat := if p ≤ j then j + 1 else j
theorem addAt_nat (p j : Nat) : addAt (p : Int) j = (plc p j : Nat) := by
  unfold addAt plc
  by_cases h : p ≤ j
  · rw [if_pos (by omega), if_pos h]; omega
  · rw [if_neg (by omega), if_neg h]
theorem plc_lt {p j m : Nat} (h : j < m) : plc p j < m + 1 := by unfold plc; split <;> omega
/-- the leaf at place q when i are in -/
def atL (L : List LH) (p i q : Nat) : LH := if q = p then empH else if (if q < p then q else q - 1) < i then L.getD (if q < p then q else q - 1) empH else empH
/-- a row in which i leaves are in, about the place p -/
def alL (L : List LH) (p i : Nat) : List LH := (List.range (L.length + 1)).map (atL L p i)
theorem alL_len (L : List LH) (p i : Nat) : (alL L p i).length = L.length + 1 := by simp [alL]
theorem alL_get {L : List LH} {p i q : Nat} (h : q < L.length + 1) : (alL L p i)[q]? = some (atL L p i q) := by simp [alL, h]
theorem atL_eq (L : List LH) (p i : Nat) : atL L p i p = empH := by simp [atL]
theorem atL_lo {L : List LH} {p i q : Nat} (h : q < p) : atL L p i q = if q < i then L.getD q empH else empH := by
  unfold atL; rw [if_neg (by omega)]; simp only [h, if_true]
theorem atL_hi {L : List LH} {p i q : Nat} (h : p < q) : atL L p i q = if q - 1 < i then L.getD (q - 1) empH else empH := by
  unfold atL; rw [if_neg (by omega)]; simp only [show ¬ q < p by omega, if_false]
theorem alL_zero (L : List LH) (p : Nat) : alL L p 0 = List.replicate (L.length + 1) empH := by
  apply List.ext_getElem?
  intro q
  by_cases h : q < L.length + 1
  · rw [alL_get h]
    simp [atL, h]
  · rw [List.getElem?_eq_none (by rw [alL_len]; omega), List.getElem?_eq_none (by simp; omega)]
theorem alL_step {L : List LH} {p i : Nat} {y : LH} (hy : L[i]? = some y) : (alL L p i).set (plc p i) y = alL L p (i + 1) := by
  have hi : i < L.length := (List.getElem?_eq_some_iff.1 hy).1
  have hyd : L.getD i empH = y := by simp [List.getD, hy]
  apply List.ext_getElem?
  intro q
  by_cases h : q < L.length + 1
  · rw [alL_get h, List.getElem?_set]
    have hpl : plc p i = if p ≤ i then i + 1 else i := rfl
    by_cases hq : plc p i = q
    · rw [if_pos hq, if_pos (by rw [alL_len]; omega)]
      congr 1
      by_cases hp : p ≤ i
      · rw [if_pos hp] at hpl
        rw [atL_hi (by omega), if_pos (by omega), show q - 1 = i by omega, hyd]
      · rw [if_neg hp] at hpl
        rw [atL_lo (by omega), if_pos (by omega), show q = i by omega, hyd]
    · rw [if_neg hq, alL_get h]
      congr 1
      rcases Nat.lt_trichotomy q p with hlt | rfl | hgt
      · rw [atL_lo hlt, atL_lo hlt]
        by_cases hj : q < i
        · rw [if_pos hj, if_pos (by omega)]
        · have : ¬ q < i + 1 := by
            intro hh
            have : q = i := by omega
            rw [if_neg (by omega)] at hpl
            omega
          rw [if_neg hj, if_neg this]
      · rw [atL_eq, atL_eq]
      · rw [atL_hi hgt, atL_hi hgt]
        by_cases hj : q - 1 < i
        · rw [if_pos hj, if_pos (by omega)]
        · have : ¬ q - 1 < i + 1 := by
            intro hh
            have : q = i + 1 := by omega
            rw [if_pos (by omega)] at hpl
            omega
          rw [if_neg hj, if_neg this]
  · rw [List.getElem?_eq_none (by rw [List.length_set, alL_len]; omega), List.getElem?_eq_none (by rw [alL_len]; omega)]
theorem alL_at (L : List LH) (p i : Nat) (hp : p ≤ L.length) : (alL L p i)[p]? = some empH := by
  rw [alL_get (by omega), atL_eq]
theorem alL_full {L : List LH} {p : Nat} (hp : p ≤ L.length) (h : LH) : (alL L p L.length).set p h = L.take p ++ h :: L.drop p := by
  apply List.ext_getElem?
  intro q
  by_cases hq : q < L.length + 1
  · rw [List.getElem?_set]
    by_cases hpq : p = q
    · subst hpq
      rw [if_pos rfl, if_pos (by rw [alL_len]; omega), List.getElem?_append_right (by simp; omega), List.length_take, Nat.min_eq_left hp, Nat.sub_self]
      rfl
    · rw [if_neg hpq, alL_get hq]
      by_cases hlt : q < p
      · rw [List.getElem?_append_left (by simp; omega), List.getElem?_take, if_pos hlt, atL_lo hlt, if_pos (by omega)]
        simp [List.getD, show q < L.length by omega]
      · rw [List.getElem?_append_right (by simp; omega), List.length_take, Nat.min_eq_left hp, List.getElem?_cons, if_neg (by omega), List.getElem?_drop, atL_hi (by omega), if_pos (by omega)]
        rw [show p + (q - p - 1) = q - 1 by omega]
        simp [List.getD, show q - 1 < L.length by omega]
  · rw [List.getElem?_eq_none (by rw [List.length_set, alL_len]; omega), List.getElem?_eq_none (by simp; omega)]
theorem getD_mem (L : List LH) (q : Nat) : L.getD q empH = empH ∨ L.getD q empH ∈ L := by
  rw [List.getD]
  cases hg : L[q]? with
  | none => exact .inl rfl
  | some z => exact .inr (List.mem_of_getElem? hg)
theorem alL_mem {L : List LH} {p i : Nat} {h : LH} (hh : h ∈ alL L p i) : h = empH ∨ h ∈ L := by
  obtain ⟨q, _, rfl⟩ := List.mem_map.1 hh
  rcases Nat.lt_trichotomy q p with hlt | rfl | hgt
  · rw [atL_lo hlt]
    split
    · exact getD_mem L q
    · exact .inl rfl
  · exact .inl (atL_eq L q i)
  · rw [atL_hi hgt]
    split
    · exact getD_mem L (q - 1)
    · exact .inl rfl

section
variable {S n : Nat}
theorem sum_less {A B : List Lf} {x : Lf} (hA : ∀ y ∈ A, Right S n y) (hB : ∀ y ∈ B, Right S n y) (hx : Right S n x) (h : sumL S n (A ++ x :: B) = zeroLf S n) : sumL S n (A ++ B) = x := by
  have hxB : ∀ y ∈ x :: B, Right S n y := fun y hy => by
    rcases List.mem_cons.1 hy with h | h
    · rw [h]; exact hx
    · exact hB y h
  have h1 : sumL S n (x :: B) = joinLf x (sumL S n B) := by
    have := sumL_app (S := S) (n := n) (A := [x]) (B := B) (fun y hy => by simp at hy; rw [hy]; exact hx) hB
    rw [sumL_one hx] at this
    exact this
  have ra := sumL_right hA
  have rb := sumL_right hB
  rw [sumL_app hA hxB, h1, ← join_assoc ra hx rb, join_comm ra hx, join_assoc hx ra rb] at h
  rw [sumL_app hA hB]
  have rab := ra.join rb
  have h2 : joinLf x (joinLf x (joinLf (sumL S n A) (sumL S n B))) = joinLf x (zeroLf S n) := by rw [h]
  rw [← join_assoc hx hx rab, join_self hx, join_zero rab, join_zero' hx] at h2
  exact h2
theorem full_zero {L : List Lf} {p : Nat} (hL : ∀ y ∈ L, Right S n y) : sumL S n (L.take p ++ sumL S n L :: L.drop p) = zeroLf S n := by
  have hA : ∀ y ∈ L.take p, Right S n y := fun y hy => hL y (List.mem_of_mem_take hy)
  have hB : ∀ y ∈ L.drop p, Right S n y := fun y hy => hL y (List.mem_of_mem_drop hy)
  have hx := sumL_right hL
  have ra := sumL_right hA
  have rb := sumL_right hB
  have hxB : ∀ y ∈ sumL S n L :: L.drop p, Right S n y := fun y hy => by
    rcases List.mem_cons.1 hy with h | h
    · rw [h]; exact hx
    · exact hB y h
  have h1 : sumL S n (sumL S n L :: L.drop p) = joinLf (sumL S n L) (sumL S n (L.drop p)) := by
    have := sumL_app (S := S) (n := n) (A := [sumL S n L]) (B := L.drop p) (fun y hy => by simp at hy; rw [hy]; exact hx) hB
    rw [sumL_one hx] at this
    exact this
  have hs : sumL S n L = joinLf (sumL S n (L.take p)) (sumL S n (L.drop p)) := by
    rw [← sumL_app hA hB, List.take_append_drop]
  rw [sumL_app hA hxB, h1, ← join_assoc ra hx rb, join_comm ra hx, join_assoc hx ra rb, ← hs, join_self hx]
/-- whichever leaf of a full row is lost: the others together are it -/
theorem lost_one {L : List Lf} {p k : Nat} {x : Lf} (hL : ∀ y ∈ L, Right S n y) (hk : (L.take p ++ sumL S n L :: L.drop p)[k]? = some x) : Right S n x ∧ sumL S n (lessOne (L.take p ++ sumL S n L :: L.drop p) k) = x ∧ ∀ y ∈ lessOne (L.take p ++ sumL S n L :: L.drop p) k, Right S n y := by
  have hz := full_zero (p := p) hL
  have hall : ∀ y ∈ L.take p ++ sumL S n L :: L.drop p, Right S n y := fun y hy => by
    rcases List.mem_append.1 hy with h | h
    · exact hL y (List.mem_of_mem_take h)
    · rcases List.mem_cons.1 h with h | h
      · rw [h]; exact sumL_right hL
      · exact hL y (List.mem_of_mem_drop h)
  generalize L.take p ++ sumL S n L :: L.drop p = F at hk hz hall ⊢
  obtain ⟨hkl, hkx⟩ := List.getElem?_eq_some_iff.1 hk
  have hF : F = F.take k ++ x :: F.drop (k + 1) := by
    rw [← hkx, ← List.drop_eq_getElem_cons hkl, List.take_append_drop]
  have hx := hall x (List.mem_of_getElem? hk)
  rw [hF] at hz
  exact ⟨hx, sum_less (fun y hy => hall y (List.mem_of_mem_take hy)) (fun y hy => hall y (List.mem_of_mem_drop hy)) hx hz, fun y hy => hall y (lessOne_mem hy)⟩
end
theorem lessOne_set {α : Type} (M : List α) (k : Nat) (e : α) : lessOne (M.set k e) k = lessOne M k := by
  unfold lessOne
  rw [List.take_set_of_le (Nat.le_refl _), List.drop_set_of_lt (by omega)]

/-- a leaf's two slices are written into a row -/
theorem RecRow.setLh {w : World} {g cap : Nat} {M : List LH} (h : RecRow lhC 2 w 35 (some ⟨g, 0, none⟩) cap M) {q : Nat} (hq : q < M.length) (y : LH) :
    RecRow lhC 2 ((w.setCell ⟨g, q * 2, none⟩ (.slice y.sa y.x.sl.length y.sc)).setCell ⟨g, q * 2 + 1, none⟩ (.slice y.ba y.x.se.length y.bc)) 35 (some ⟨g, 0, none⟩) cap (M.set q y) := by
  have h1 := h.setField lhC_len (j := q) (i := 0) (x := M[q]) (y := ⟨⟨y.x.sl, M[q].x.se⟩, y.sa, y.sc, M[q].ba, M[q].bc⟩) (v := .slice y.sa y.x.sl.length y.sc) (by decide) (List.getElem?_eq_getElem hq) rfl
  have h2 := h1.setField lhC_len (j := q) (i := 1) (x := ⟨⟨y.x.sl, M[q].x.se⟩, y.sa, y.sc, M[q].ba, M[q].bc⟩) (y := y) (v := .slice y.ba y.x.se.length y.bc) (by decide) (by simp [hq]) rfl
  rw [List.set_set] at h2
  exact h2
theorem made_leaves (n : Nat) : madeCells #[.slice none 0 0, .slice none 0 0] (n * 2) = (recs lhC (List.replicate n empH)).toArray := by
  apply Array.toList_inj.1
  apply List.ext_getElem?
  intro j
  by_cases hj : j < n * 2
  · have h1 : (recs lhC (List.replicate n empH))[j / 2 * 2 + j % 2]? = (lhC empH)[j % 2]? := by
      have hr : j % 2 < 2 := Nat.mod_lt _ (by decide)
      obtain ⟨v, hv⟩ : ∃ v, (lhC empH)[j % 2]? = some v := ⟨_, List.getElem?_eq_getElem (by simp [lhC]; omega)⟩
      rw [hv]
      exact recs_get lhC_len hr (by rw [List.getElem?_replicate, if_pos (by omega)]) hv
    rw [show j / 2 * 2 + j % 2 = j by omega] at h1
    simp only [madeCells, Array.toList_map, Array.toList_range, List.getElem?_map, List.getElem?_range hj, Option.map_some]
    rw [h1]
    have hr : j % 2 = 0 ∨ j % 2 = 1 := by omega
    rcases hr with h | h <;> simp [h, lhC, empH]
  · have h1 : (recs lhC (List.replicate n empH)).length = n * 2 := by rw [recs_len lhC_len]; simp
    simp [madeCells, hj]
    omega
theorem make28 (n : Nat) (hn : n ≤ 1000000) (w : World) : (Instr.makeSlice 28 (.int .i64 (n : Int)) (.int .i64 (n : Int))).run Try.prog w = .ok (.slice (some ⟨w.heap.size, 0, none⟩) n n) (w.alloc (.cells (recs lhC (List.replicate n empH)).toArray 35)) := by
  obtain ⟨i35, hi, hz0, hz1, hz2⟩ := info_parts info35
  have h := run_make (P := Try.prog) w 28 35 i35 _ Try.underlying28 hi hz0 .i64 .i64 n n (by omega) (Int.le_refl _) (by rw [hz2]; omega) (by omega)
  rw [h]
  simp only [Int.toNat_natCast, hz1]
  rw [← made_leaves]
  rfl
theorem made_row (n : Nat) (hn : n ≤ 1000000) (w : World) : RecRow lhC 2 (w.alloc (.cells (recs lhC (List.replicate n empH)).toArray 35)) 35 (some ⟨w.heap.size, 0, none⟩) n (List.replicate n empH) := by
  have hl : (recs lhC (List.replicate n empH)).length = n * 2 := by rw [recs_len lhC_len]; simp
  refine ⟨by rw [hl]; simp, .inr ⟨w.heap.size, n, _, by simp, Nat.zero_le _, heap_alloc_new w _, by simp, by unfold maxLen; omega, by simp [hl], ?_⟩⟩
  simp only [List.length_replicate]
  rw [List.take_of_length_le]
  rw [hl]
  exact Nat.le_refl _
end Go.Proofs.Ytdgcbjkopmlegaa
