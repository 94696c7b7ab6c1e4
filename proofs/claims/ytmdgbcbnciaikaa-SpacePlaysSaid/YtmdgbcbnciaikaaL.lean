/- SpaceFirst: spaces side by side -/
import Derived.Test.YtmdgbcbnciaikaaJ
namespace Go.Proofs.Ytmdgbcbnciaikaa
open Go.RowKit

/-- side by side from pl on, Ids from i + 1 on -/
def Stk : Int → Nat → List Spc → Prop
  | _, _, [] => True
  | pl, i, s :: r => s.id = (i : Int) + 1 ∧ s.base = pl ∧ 1 ≤ s.size ∧ Stk (pl + s.size) (i + 1) r
theorem stk_app : ∀ {A B : List Spc} {pl : Int} {i : Nat}, Stk pl i (A ++ B) ↔ Stk pl i A ∧ Stk (pl + spSum A) (i + A.length) B
  | [], B, pl, i => by simp [Stk, spSum]
  | s :: r, B, pl, i => by
    show (_ ∧ _ ∧ _ ∧ Stk (pl + s.size) (i + 1) (r ++ B)) ↔ _
    rw [stk_app (A := r), List.length_cons, show i + (r.length + 1) = i + 1 + r.length by omega]
    show _ ↔ (_ ∧ _ ∧ _ ∧ Stk (pl + s.size) (i + 1) r) ∧ Stk (pl + (s.size + spSum r)) _ B
    rw [show pl + (s.size + spSum r) = pl + s.size + spSum r by omega]
    constructor
    · rintro ⟨h1, h2, h3, h4, h5⟩; exact ⟨⟨h1, h2, h3, h4⟩, h5⟩
    · rintro ⟨⟨h1, h2, h3, h4⟩, h5⟩; exact ⟨h1, h2, h3, h4, h5⟩
theorem scan_stk {size keys : Int} (hs : 1 ≤ size) (B : List Spc) : ∀ {A : List Spc} {pl : Int} {i : Nat}, Stk pl i A → scan size keys (A ++ B) pl = scan size keys B (pl + spSum A)
  | [], pl, i, _ => by simp [spSum]
  | s :: r, pl, i, ⟨h1, h2, h3, h4⟩ => by
    show (if size ≤ s.base - pl then pl else scan size keys (r ++ B) (s.base + s.size)) = _
    rw [if_neg (by omega), h2, scan_stk hs B h4]
    show _ = scan size keys B (pl + (s.size + spSum r))
    rw [show pl + (s.size + spSum r) = pl + s.size + spSum r by omega]
theorem stk_low : ∀ {A : List Spc} {pl : Int} {i : Nat}, Stk pl i A → ∀ s ∈ A, pl ≤ s.base ∧ 1 ≤ s.size
  | [], _, _, _, _, h => by cases h
  | s :: r, pl, i, ⟨h1, h2, h3, h4⟩, t, ht => by
    rcases List.mem_cons.1 ht with rfl | ht
    · exact ⟨by omega, h3⟩
    · have := stk_low h4 t ht; omega
theorem stk_sorted : ∀ {A : List Spc} {pl : Int} {i : Nat}, Stk pl i A → SortedB A
  | [], _, _, _ => List.Pairwise.nil
  | s :: r, pl, i, ⟨h1, h2, h3, h4⟩ => by
    refine List.pairwise_cons.2 ⟨fun t ht => ?_, stk_sorted h4⟩
    have := stk_low h4 t ht; omega
theorem stk_sum : ∀ {A : List Spc} {pl : Int} {i : Nat}, Stk pl i A → 0 ≤ spSum A
  | [], _, _, _ => by simp [spSum]
  | s :: r, pl, i, ⟨h1, h2, h3, h4⟩ => by
    have := stk_sum h4
    show 0 ≤ s.size + spSum r
    omega
theorem stk_ne {A : List Spc} {pl : Int} {i : Nat} (h : Stk pl i A) : ∀ s ∈ A, s ≠ sp0 := by
  intro s hs e
  have := (stk_low h s hs).2
  rw [e] at this
  simp [sp0] at this
theorem spAll_app (A B : List Spc) : spAll (A ++ B) = spAll A ++ spAll B := by unfold spAll; rw [List.filter_append]
theorem spAll_id {A : List Spc} (h : ∀ s ∈ A, s ≠ sp0) : spAll A = A := by
  unfold spAll
  rw [List.filter_eq_self]
  intro s hs
  simpa using h s hs
theorem spAll_zero (k : Nat) : spAll (List.replicate k sp0) = [] := by
  unfold spAll
  rw [List.filter_eq_nil_iff]
  intro s hs
  rw [(List.mem_replicate.1 hs).2]; decide
theorem idx0_app {A : List Spc} (h : ∀ s ∈ A, s ≠ sp0) (B : List Spc) : ∀ i : Nat, idx0 (A ++ B) i = idx0 B (i + A.length) := by
  induction A with
  | nil => intro i; rfl
  | cons s r ih =>
    intro i
    show (if s = sp0 then (i : Int) else idx0 (r ++ B) (i + 1)) = _
    rw [if_neg (h s (by simp)), ih (fun t ht => h t (by simp [ht])), List.length_cons, show i + 1 + r.length = i + (r.length + 1) by omega]
/-- a table whose first places hold L, the others nothing -/
def Zs (L : List Spc) : List Spc := L ++ List.replicate (16 - L.length) sp0
theorem Zs.nil : Zs [] = List.replicate 16 sp0 := rfl
theorem Zs.snoc {L : List Spc} (h : L.length < 16) (s : Spc) : (Zs L).set L.length s = Zs (L ++ [s]) := by
  unfold Zs
  rw [List.set_append_right _ _ (Nat.le_refl _), Nat.sub_self]
  obtain ⟨k, hk⟩ : ∃ k, 16 - L.length = k + 1 := ⟨15 - L.length, by omega⟩
  rw [hk, List.length_append, show 16 - (L.length + [s].length) = k by simp; omega]
  simp [List.replicate_succ]
theorem Zs.all {L : List Spc} (h : ∀ s ∈ L, s ≠ sp0) : spAll (Zs L) = L := by
  unfold Zs
  rw [spAll_app, spAll_id h, spAll_zero, List.append_nil]
theorem Zs.sort {keys : Int} {L : List Spc} (hok : TabOk keys (Zs L)) (h : Stk 0 0 L) : spSort (Zs L) = L :=
  (spSort_one hok (by rw [Zs.all (stk_ne h)]) (stk_sorted h)).symm
theorem Zs.low {keys size : Int} {L : List Spc} (hok : TabOk keys (Zs L)) (h : Stk 0 0 L) (hs : 1 ≤ size) : lowAt keys (Zs L) size = if size ≤ keys - spSum L then spSum L else -1 := by
  unfold lowAt
  rw [Zs.sort hok h]
  have := scan_stk (keys := keys) hs [] h
  rw [List.append_nil] at this
  rw [this]
  unfold scan
  rw [Int.zero_add]
theorem Zs.idx {L : List Spc} (h : Stk 0 0 L) (hl : L.length < 16) : idx0 (Zs L) 0 = (L.length : Int) := by
  unfold Zs
  rw [idx0_app (stk_ne h)]
  obtain ⟨k, hk⟩ : ∃ k, 16 - L.length = k + 1 := ⟨15 - L.length, by omega⟩
  rw [hk, List.replicate_succ]
  show (if sp0 = sp0 then ((0 + L.length : Nat) : Int) else _) = _
  rw [if_pos rfl, Nat.zero_add]
/-- one more is made, or none -/
theorem stk_create {keys size : Int} {L : List Spc} (hok : TabOk keys (Zs L)) (h : Stk 0 0 L) (hl : L.length < 16) (hs : 1 ≤ size) :
    (crE keys (Zs L) size = 0 ∧ ∃ s, crS keys (Zs L) size = s ∧ crT keys (Zs L) size = Zs (L ++ [s]) ∧ Stk 0 0 (L ++ [s])) ∨ (crE keys (Zs L) size = 90 ∧ crT keys (Zs L) size = Zs L) := by
  have hi := Zs.idx h hl
  have hlow := Zs.low hok h hs
  have hsum := stk_sum h
  by_cases hf : size ≤ keys - spSum L
  · rw [if_pos hf] at hlow
    have hc : crIf keys (Zs L) size = true := by unfold crIf; exact decide_eq_true (by omega)
    left
    refine ⟨by unfold crE; rw [if_neg (by omega), hc]; rfl, ⟨(L.length : Int) + 1, spSum L, size⟩, by unfold crS; rw [hc, hi, hlow]; rfl, ?_, ?_⟩
    · unfold crT
      rw [hc, hi, hlow, if_pos rfl, ← Zs.snoc hl]; rfl
    · rw [stk_app]
      refine ⟨h, ?_, ?_, hs, True.intro⟩
      · show (L.length : Int) + 1 = ((0 + L.length : Nat) : Int) + 1
        rw [Nat.zero_add]
      · show spSum L = 0 + spSum L
        omega
  · rw [if_neg hf] at hlow
    have hc : crIf keys (Zs L) size = false := by unfold crIf; exact decide_eq_false (by omega)
    right
    exact ⟨by unfold crE; rw [if_neg (by omega), hc]; rfl, by unfold crT; rw [hc]; rfl⟩

/-! ### one is deleted, and made again -/
theorem stk_at {L : List Spc} (h : Stk 0 0 L) {j : Nat} {x : Spc} (hx : L[j]? = some x) : x.id = (j : Int) + 1 ∧ x.base = spSum (L.take j) ∧ 1 ≤ x.size ∧ Stk 0 0 (L.take j) ∧ Stk (spSum (L.take j) + x.size) (j + 1) (L.drop (j + 1)) ∧ L = L.take j ++ x :: L.drop (j + 1) := by
  obtain ⟨hj, e⟩ := List.getElem?_eq_some_iff.1 hx
  have hL : L = L.take j ++ x :: L.drop (j + 1) := by
    rw [← e]
    conv => lhs; rw [← List.take_append_drop j L, List.drop_eq_getElem_cons hj]
  have h2 := h
  rw [hL] at h2
  obtain ⟨h3, h4, h5, h6, h7⟩ := stk_app.1 h2
  have hlen : (L.take j).length = j := by rw [List.length_take]; omega
  rw [hlen, Nat.zero_add] at h4 h7
  rw [Int.zero_add] at h5 h7
  exact ⟨h4, h5, h6, h3, h7, hL⟩
theorem tat_zs {keys : Int} {L : List Spc} (hok : TabOk keys (Zs L)) (h : Stk 0 0 L) {j : Nat} {x : Spc} (hx : L[j]? = some x) : tat (Zs L) x.id = x ∧ x ≠ sp0 :=
  ⟨(tat_mem hok (by rw [Zs.all (stk_ne h)]; exact List.mem_of_getElem? hx)).1, stk_ne h x (List.mem_of_getElem? hx)⟩
theorem spSum_set {T : List Spc} {j : Nat} {x : Spc} (hx : T[j]? = some x) : spSum (T.set j sp0) = spSum T - x.size := by
  obtain ⟨hj, e⟩ := List.getElem?_eq_some_iff.1 hx
  have hT : T = T.take j ++ x :: T.drop (j + 1) := by
    rw [← e]
    conv => lhs; rw [← List.take_append_drop j T, List.drop_eq_getElem_cons hj]
  have hlen : (T.take j).length = j := by rw [List.length_take]; omega
  have h2 : T.set j sp0 = T.take j ++ sp0 :: T.drop (j + 1) := by
    conv => lhs; rw [hT]
    rw [List.set_append_right _ _ (by omega), hlen, Nat.sub_self]; rfl
  rw [h2]
  conv => rhs; rw [hT]
  rw [spSum_app, spSum_app]
  show spSum _ + (sp0.size + spSum _) = spSum _ + (x.size + spSum _) - x.size
  simp only [sp0]
  omega
/-- the first again -/
theorem stk_again {keys : Int} {L : List Spc} (hok : TabOk keys (Zs L)) (h : Stk 0 0 L) (hl : L.length ≤ 16) {j : Nat} {x : Spc} (hx : L[j]? = some x) :
    tdel (Zs L) x.id = (Zs L).set j sp0 ∧ crE keys (tdel (Zs L) x.id) x.size = 0 ∧ crS keys (tdel (Zs L) x.id) x.size = x ∧ crT keys (tdel (Zs L) x.id) x.size = Zs L ∧ spSum (tdel (Zs L) x.id) = spSum (Zs L) - x.size := by
  obtain ⟨hj, _⟩ := List.getElem?_eq_some_iff.1 hx
  obtain ⟨h1, h2, h3, h4, h5, h6⟩ := stk_at h hx
  have hxz : (Zs L)[j]? = some x := by
    unfold Zs
    rw [List.getElem?_append_left hj]; exact hx
  have hd : tdel (Zs L) x.id = (Zs L).set j sp0 := by
    unfold tdel
    rw [h1, if_pos (by omega), show ((j : Int) + 1 - 1).toNat = j by omega]
  have hlen : (L.take j).length = j := by rw [List.length_take]; omega
  have hok2 := tdel_ok hok x.id
  rw [hd] at hok2 ⊢
  have hset : (Zs L).set j sp0 = L.take j ++ sp0 :: (L.drop (j + 1) ++ List.replicate (16 - L.length) sp0) := by
    unfold Zs
    conv => lhs; rw [h6]
    rw [List.append_assoc, List.set_append_right _ _ (by omega), hlen, Nat.sub_self]
    simp only [List.cons_append, List.set_cons_zero]
    rw [← h6]
  have hall : spAll ((Zs L).set j sp0) = L.take j ++ L.drop (j + 1) := by
    rw [hset, spAll_app, spAll_id (stk_ne h4)]
    rw [show sp0 :: (L.drop (j + 1) ++ List.replicate (16 - L.length) sp0) = List.replicate 1 sp0 ++ (L.drop (j + 1) ++ List.replicate (16 - L.length) sp0) from rfl]
    rw [spAll_app, spAll_app, spAll_zero, spAll_zero, spAll_id (stk_ne h5), List.nil_append, List.append_nil]
  have hsorted : SortedB (L.take j ++ L.drop (j + 1)) := by
    have hs := stk_sorted h
    unfold SortedB at hs ⊢
    rw [h6] at hs
    exact hs.sublist (List.Sublist.append (List.Sublist.refl _) (List.sublist_cons_self _ _))
  have hsort : spSort ((Zs L).set j sp0) = L.take j ++ L.drop (j + 1) := (spSort_one hok2 (by rw [hall]) hsorted).symm
  have hidx : idx0 ((Zs L).set j sp0) 0 = (j : Int) := by
    rw [hset, idx0_app (stk_ne h4)]
    show (if sp0 = sp0 then ((0 + (L.take j).length : Nat) : Int) else _) = _
    rw [if_pos rfl, hlen, Nat.zero_add]
  have hxo := (hok.all (mem_all.2 ⟨List.mem_of_getElem? hxz, stk_ne h x (List.mem_of_getElem? hx)⟩))
  have hlow : lowAt keys ((Zs L).set j sp0) x.size = x.base := by
    unfold lowAt
    rw [hsort, scan_stk h3 _ h4, Int.zero_add, ← h2]
    rw [← h2] at h5
    cases hD : L.drop (j + 1) with
    | nil =>
      unfold scan
      rw [if_pos (by have := hxo.top; omega)]
    | cons y r =>
      rw [hD] at h5
      obtain ⟨_, h8, _, _⟩ := h5
      unfold scan
      rw [if_pos (by omega)]
  have hb := hxo.base
  have hc : crIf keys ((Zs L).set j sp0) x.size = true := by unfold crIf; exact decide_eq_true (by omega)
  have hxe : (⟨(j : Int) + 1, x.base, x.size⟩ : Spc) = x := by
    obtain ⟨a, b, c⟩ := x
    simp only at h1
    rw [h1]
  refine ⟨rfl, by unfold crE; rw [if_neg (by omega), hc]; rfl, by unfold crS; rw [hc, hidx, hlow, if_pos rfl, hxe], ?_, spSum_set hxz⟩
  unfold crT
  rw [hc, hidx, hlow, if_pos rfl, hxe]
  show ((Zs L).set j sp0).set j x = Zs L
  rw [List.set_set]
  exact set_same hxz
end Go.Proofs.Ytmdgbcbnciaikaa
