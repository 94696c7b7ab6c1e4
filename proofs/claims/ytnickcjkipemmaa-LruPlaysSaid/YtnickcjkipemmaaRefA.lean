/- the reference's cache: a row of entries: what it is in memory, and on lists -/
import Derived.Test.YtnickcjkipemmaaSort
import Derived.Test.YtnickcjkipemmaaClean
import Derived.Test.YtnickcjkipemmaaStaysW
import Derived.Test.YtnickcjkipemmaaRecs
namespace Go.Proofs.Ytnickcjkipemmaa
open Go.RowKit

attribute [local go_sem ↓] Go.wp_at_zero Go.wp_at_succ

theorem info54 : (Try.prog.info? 54).map (fun i => (i.zero, i.size, i.bytes)) = some (some (.agg #[.int .i64 0, .int .u64 0, .bool false]), 3, 24) := by kernel_rfl
theorem entC_l3 (x : Ent) : (entC x).length = 3 := rfl
theorem entR_one (L : List Ent) : ∀ u ∈ recs entC L, u.oneCell' = true := by
  intro u hu
  obtain ⟨x, _, hx⟩ := List.mem_flatMap.1 hu
  simp [entC] at hx
  rcases hx with rfl | rfl | rfl <;> rfl

/-- the reference's cache at rb holds l; its row is at a -/
structure RefB (w : World) (rb : Nat) (most : Int) (a : Option Addr) (cap : Nat) (l : List Ent) : Prop where
  head : w.heap[rb]? = some (.cells #[.int .i64 most, .slice a l.length cap] 53)
  row : RecRow entC 3 w 54 a cap l
  apart : blk a ≠ some rb
def rown (rb : Nat) (a : Option Addr) (k : Nat) : Prop := k = rb ∨ blk a = some k
def RefX (w : World) (rb : Nat) (most : Int) (l : List Ent) (R : Nat → Prop) : Prop := ∃ a cap, RefB w rb most a cap l ∧ R = rown rb a
theorem RefB.keeps {T : Nat → Prop} {w w' : World} {rb cap : Nat} {most : Int} {a : Option Addr} {l : List Ent} (h : RefB w rb most a cap l) (hk : Keeps T w w') (hn : ∀ k, rown rb a k → ¬ T k) : RefB w' rb most a cap l :=
  ⟨hk.heap h.head (hn rb (.inl rfl)), RowAt.keeps h.row hk (fun g hg => hn g (.inr hg)), h.apart⟩
theorem RefX.keeps {T : Nat → Prop} {w w' : World} {rb : Nat} {most : Int} {l : List Ent} {R : Nat → Prop} (h : RefX w rb most l R) (hk : Keeps T w w') (hn : ∀ k, R k → ¬ T k) : RefX w' rb most l R := by
  obtain ⟨a, cap, hB, rfl⟩ := h
  exact ⟨a, cap, hB.keeps hk hn, rfl⟩
theorem RefX.nil {w w' : World} {rb : Nat} {most : Int} {l : List Ent} {R : Nat → Prop} (h : RefX w rb most l R) (hk : Keeps Nil w w') : RefX w' rb most l R := h.keeps hk (fun _ _ h => h)
theorem RefX.lt {w : World} {rb : Nat} {most : Int} {l : List Ent} {R : Nat → Prop} (h : RefX w rb most l R) {k : Nat} (hk : R k) : k < w.heap.size := by
  obtain ⟨a, cap, hB, rfl⟩ := h
  rcases hk with rfl | hk
  · exact lt_of_heap hB.head
  · exact RowAt.lt hB.row hk
/-- a call on the reference -/
def ROut (w : World) (rb : Nat) (most : Int) (R : Nat → Prop) (v : Value) (l' : List Ent) (e : Ending) (w' : World) : Prop := e = .returned v ∧ ∃ R', RefX w' rb most l' R' ∧ Keeps R w w' ∧ ∀ k, R' k → R k ∨ w.heap.size ≤ k
theorem ROut.trans {w w1 w2 : World} {rb : Nat} {most : Int} {R R1 : Nat → Prop} {v : Value} {l' : List Ent} {e : Ending} (hk : Keeps R w w1) (hR : ∀ k, R1 k → R k ∨ w.heap.size ≤ k) (h : ROut w1 rb most R1 v l' e w2) : ROut w rb most R v l' e w2 := by
  obtain ⟨he, R', h1, h2, h3⟩ := h
  refine ⟨he, R', h1, hk.trans' h2 (fun j hj => hR j hj), fun k hk' => ?_⟩
  rcases h3 k hk' with h4 | h4
  · exact hR k h4
  · exact .inr (Nat.le_trans hk.size h4)

/-- where a key is; below 0: nowhere -/
def lidx (k : Int) : List Ent → Nat → Int
  | [], _ => -1
  | e :: r, i => if e.key = k then i else lidx k r (i + 1)
theorem lidx_drop {k : Int} {L : List Ent} {q : Nat} (h : q < L.length) : lidx k (L.drop q) q = if L[q].key = k then (q : Int) else lidx k (L.drop (q + 1)) (q + 1) := by
  rw [List.drop_eq_getElem_cons h, lidx]
theorem lfidx' (k : Int) : ∀ (l : List Ent) (i : Nat), (lget k l = none ∧ lidx k l i = -1) ∨ ∃ j x, l[j]? = some x ∧ x.key = k ∧ lget k l = some x ∧ lidx k l i = ((i + j : Nat) : Int) ∧ ldel k l = l.eraseIdx j
  | [], i => .inl ⟨rfl, rfl⟩
  | x :: l, i => by
    by_cases h : x.key = k
    · exact .inr ⟨0, x, rfl, h, by simp [lget, h], by simp [lidx, h], by simp [ldel, h]⟩
    · rcases lfidx' k l (i + 1) with ⟨h1, h2⟩ | ⟨j, y, h1, h2, h3, h4, h5⟩
      · exact .inl ⟨by simp [lget, h, h1], by simp [lidx, h, h2]⟩
      · refine .inr ⟨j + 1, y, by simpa using h1, h2, by simp [lget, h, h3], ?_, by simp [ldel, h, h5]⟩
        rw [lidx, if_neg h, h4]
        congr 1; omega
theorem lfidx (k : Int) (l : List Ent) : (lget k l = none ∧ lidx k l 0 = -1) ∨ ∃ (j : Nat) (x : Ent), l[j]? = some x ∧ x.key = k ∧ lget k l = some x ∧ lidx k l 0 = (j : Int) ∧ ldel k l = l.eraseIdx j := by
  have := lfidx' k l 0
  simpa only [Nat.zero_add] using this

/-! ### an entry put in by its key -/
/-- the place of a key in a row by rising keys -/
def insE (e : Ent) : List Ent → List Ent
  | [] => [e]
  | x :: r => if x.key < e.key then x :: insE e r else e :: x :: r
theorem insE_perm (e : Ent) : ∀ L : List Ent, (insE e L).Perm (e :: L)
  | [] => List.Perm.refl _
  | x :: r => by
    rw [insE]
    split
    · exact ((insE_perm e r).cons x).trans (List.Perm.swap e x r)
    · exact List.Perm.refl _
theorem insE_mem {e y : Ent} {L : List Ent} (h : y ∈ insE e L) : y = e ∨ y ∈ L := by
  have := (insE_perm e L).mem_iff.1 h
  simpa using this
theorem insE_sorted {e : Ent} : ∀ {L : List Ent}, SortedK L → (∀ x ∈ L, x.key ≠ e.key) → SortedK (insE e L)
  | [], _, _ => by unfold insE SortedK; simp
  | x :: r, h, hn => by
    unfold SortedK at h
    rw [List.pairwise_cons] at h
    rw [insE]
    split
    · rename_i hlt
      unfold SortedK
      rw [List.pairwise_cons]
      refine ⟨fun y hy => ?_, insE_sorted h.2 (fun z hz => hn z (List.mem_cons_of_mem _ hz))⟩
      rcases insE_mem hy with rfl | hy
      · exact hlt
      · exact h.1 y hy
    · rename_i hge
      have hne := hn x (by simp)
      unfold SortedK
      rw [List.pairwise_cons, List.pairwise_cons]
      refine ⟨fun y hy => ?_, h⟩
      rcases List.mem_cons.1 hy with rfl | hy
      · omega
      · have := h.1 y hy; omega
/-- from the right: the place is where all behind are greater, and the one ahead is not -/
theorem insE_at {e : Ent} : ∀ {M : List Ent} {k : Nat}, SortedK M → k ≤ M.length → (∀ j (h : j < M.length), k ≤ j → e.key < M[j].key) → (∀ (h : 0 < k) (h2 : k - 1 < M.length), M[k - 1].key < e.key) → M.take k ++ e :: M.drop k = insE e M
  | [], k, _, hk, _, _ => by simp at hk; subst hk; rfl
  | x :: r, 0, _, _, h1, _ => by
    have := h1 0 (by simp) (by omega)
    simp only [List.getElem_cons_zero] at this
    rw [insE, if_neg (by omega)]; rfl
  | x :: r, k + 1, hs, hk, h1, h2 => by
    have hs' := hs
    unfold SortedK at hs'
    rw [List.pairwise_cons] at hs'
    have hx : x.key < e.key := by
      have h3 := h2 (by omega) (by simp at hk ⊢; omega)
      cases k with
      | zero => exact h3
      | succ k' =>
        have hk2 : k' < r.length := by simp at hk; omega
        have h4 := hs'.1 r[k'] (List.getElem_mem hk2)
        have h5 : (x :: r)[k' + 1 + 1 - 1]'(by simp; omega) = r[k'] := rfl
        rw [h5] at h3
        omega
    rw [insE, if_pos hx]
    simp only [List.take_succ_cons, List.drop_succ_cons, List.cons_append]
    rw [insE_at (k := k) hs'.2 (by simpa using hk) (fun j hj hkj => by
      have := h1 (j + 1) (by simpa using hj) (by omega)
      simpa using this) (fun h0 h => by
      have := h2 (by omega) (by simp; omega)
      obtain ⟨k', rfl⟩ : ∃ k', k = k' + 1 := ⟨k - 1, by omega⟩
      simpa using this)]
/-- the changed entries of the range, by rising keys (CleanOf, ahead of the sort's text) -/
def CleanR (lo hi : Int) (L M : List Ent) : Prop := M.Perm (lpick lo hi L) ∧ SortedK M
/-- one more entry is looked at -/
theorem clean_next {lo hi : Int} {A : List Ent} {e : Ent} {M : List Ent} (h : CleanR lo hi A M) (hin : inR lo hi e = true) (hn : ∀ x ∈ A, x.key ≠ e.key) : CleanR lo hi (A ++ [e]) (insE e M) := by
  refine ⟨?_, insE_sorted h.2 (fun x hx => ?_)⟩
  · rw [lpick_snoc_in hin]
    exact (insE_perm e M).trans ((h.1.cons e).trans (List.perm_append_singleton e _).symm)
  · have := h.1.mem_iff.1 hx
    exact hn x (List.mem_filter.1 this).1
theorem clean_same {lo hi : Int} {A : List Ent} {e : Ent} {M : List Ent} (h : CleanR lo hi A M) (hin : inR lo hi e = false) : CleanR lo hi (A ++ [e]) M := ⟨by rw [lpick_snoc_out hin]; exact h.1, h.2⟩
end Go.Proofs.Ytnickcjkipemmaa
