/- LruStays: the plain law and the walk -/
import Derived.Test.YtnickcjkipemmaaDrops
namespace Go.Proofs.Ytnickcjkipemmaa
open Go.RowKit

theorem nodup_sub_length {α : Type} [DecidableEq α] : ∀ {l m : List α}, l.Nodup → (∀ x ∈ l, x ∈ m) → l.length ≤ m.length
  | [], m, _, _ => Nat.zero_le _
  | a :: l, m, h, hs => by
    have h1 := List.nodup_cons.1 h
    have ha := hs a (by simp)
    have ih := nodup_sub_length (l := l) (m := m.erase a) h1.2 (fun x hx => by
      have hne : x ≠ a := fun e => h1.1 (by rw [← e]; exact hx)
      exact (List.mem_erase_of_ne hne).2 (hs x (List.mem_cons_of_mem _ hx)))
    rw [List.length_erase_of_mem ha] at ih
    have : 0 < m.length := List.length_pos_of_mem ha
    simp only [List.length_cons]
    omega

/-- key is there with 77, and what stands ahead of it has a key of K -/
def Present (key : Int) (K : List Int) (L : List Ent) : Prop := ∃ A e B, L = A ++ e :: B ∧ e.key = key ∧ e.val = 77 ∧ ∀ x ∈ A, x.key ∈ K
theorem Present.more {key : Int} {K K' : List Int} {L : List Ent} (h : Present key K L) (hs : ∀ k ∈ K, k ∈ K') : Present key K' L := by
  obtain ⟨A, e, B, h1, h2, h3, h4⟩ := h
  exact ⟨A, e, B, h1, h2, h3, fun x hx => hs _ (h4 x hx)⟩
theorem ldel_split {k : Int} {e : Ent} : ∀ {A B : List Ent}, e.key ≠ k → (ldel k (A ++ e :: B) = ldel k A ++ e :: B ∧ lhas k A = true) ∨ ldel k (A ++ e :: B) = A ++ e :: ldel k B
  | [], B, h => .inr (by rw [List.nil_append, ldel, if_neg h]; rfl)
  | x :: A, B, h => by
    rw [List.cons_append, ldel]
    by_cases hx : x.key = k
    · rw [if_pos hx]
      exact .inl ⟨by rw [ldel, if_pos hx], by unfold lhas; rw [lget, if_pos hx]; rfl⟩
    · rw [if_neg hx]
      rcases ldel_split (A := A) (B := B) h with ⟨h1, h2⟩ | h1
      · refine .inl ⟨by rw [h1, ldel, if_neg hx]; rfl, ?_⟩
        unfold lhas at h2 ⊢
        rw [lget, if_neg hx]; exact h2
      · exact .inr (by rw [h1]; rfl)
theorem ldel_sub {k : Int} {x : Ent} : ∀ {L : List Ent}, x ∈ ldel k L → x ∈ L
  | [], h => by cases h
  | e :: r, h => by
    rw [ldel] at h
    split at h
    · exact List.mem_cons_of_mem _ h
    · rcases List.mem_cons.1 h with h | h
      · rw [h]; simp
      · exact List.mem_cons_of_mem _ (ldel_sub h)
/-- one at the head, x taken out of the rest -/
theorem present_move {key x : Int} {K : List Int} {L : List Ent} {s : Ent} (h : Present key K L) (hne : key ≠ x) (hs : s.key = x) : Present key (x :: K) (s :: ldel x L) := by
  obtain ⟨A, e, B, rfl, h2, h3, h4⟩ := h
  rcases ldel_split (A := A) (B := B) (e := e) (k := x) (by rw [h2]; exact hne) with ⟨h5, _⟩ | h5
  · refine ⟨s :: ldel x A, e, B, by rw [h5]; rfl, h2, h3, fun y hy => ?_⟩
    rcases List.mem_cons.1 hy with rfl | hy
    · simp [hs]
    · exact List.mem_cons_of_mem _ (h4 y (ldel_sub hy))
  · refine ⟨s :: A, e, ldel x B, by rw [h5]; rfl, h2, h3, fun y hy => ?_⟩
    rcases List.mem_cons.1 hy with rfl | hy
    · simp [hs]
    · exact List.mem_cons_of_mem _ (h4 y hy)
theorem present_front {key x : Int} {K : List Int} {L : List Ent} (h : Present key K L) (hne : key ≠ x) (hh : lhas x L = true) : Present key (x :: K) (lfront x L) := by
  unfold lhas at hh
  unfold lfront
  cases hg : lget x L with
  | none => rw [hg] at hh; cases hh
  | some s => exact present_move h hne (by
      have : ∀ L : List Ent, lget x L = some s → s.key = x := by
        intro L
        induction L with
        | nil => intro h; cases h
        | cons e r ih =>
          intro h
          rw [lget] at h
          by_cases hk : e.key = x
          · rw [if_pos hk] at h; cases h; exact hk
          · rw [if_neg hk] at h; exact ih h
      exact this L hg)
theorem lfront_absent {k : Int} {L : List Ent} (h : lhas k L = false) : lfront k L = L := by
  unfold lhas at h
  unfold lfront
  cases hg : lget k L with
  | none => rfl
  | some s => rw [hg] at h; cases h
theorem lget_has {x : Int} {s : Ent} {L : List Ent} (h : lget x L = some s) : s.key = x := by
  induction L with
  | nil => cases h
  | cons e r ih =>
    rw [lget] at h
    by_cases hk : e.key = x
    · rw [if_pos hk] at h; cases h; exact hk
    · rw [if_neg hk] at h; exact ih h
/-- Put of another key: key is still there, or so many have been met -/
theorem present_put {m : Int} {key : Int} {K K' : List Int} {L : List Ent} {s : Ent} (h : Present key K L) (hne : key ≠ s.key) (hnd : (L.map (·.key)).Nodup) (hsub : ∀ k, k ∈ s.key :: K → k ∈ K') : Present key K' (lput m s L) ∨ m ≤ K'.length := by
  unfold lput
  cases hg : lget s.key L with
  | some x =>
    simp only
    exact .inl ((present_move (s := ⟨s.key, s.val, x.dirty || s.dirty⟩) h hne rfl).more hsub)
  | none =>
    simp only
    have hno := lhas_false.1 (show lhas s.key L = false by unfold lhas; rw [hg]; rfl)
    obtain ⟨A, e, B, rfl, h2, h3, h4⟩ := h
    by_cases hf : ((A ++ e :: B).length : Int) = m
    · rw [if_pos hf]
      rcases snoc_cases B with rfl | ⟨B', u, rfl⟩
      · right
        have hl : A.length + 1 = (A ++ [e]).length := by simp
        have hA : (s.key :: A.map (·.key)).Nodup := by
          rw [List.map_append] at hnd hno
          refine List.nodup_cons.2 ⟨fun hm => hno (List.mem_append_left _ hm), (List.nodup_append.1 hnd).1⟩
        have := nodup_sub_length (m := K') hA (fun x hx => by
          rcases List.mem_cons.1 hx with rfl | hx
          · exact hsub _ (by simp)
          · obtain ⟨y, hy, rfl⟩ := List.mem_map.1 hx
            exact hsub _ (List.mem_cons_of_mem _ (h4 y hy)))
        simp at this hf
        omega
      · left
        refine ⟨s :: A, e, B', ?_, h2, h3, fun y hy => ?_⟩
        · rw [show A ++ e :: (B' ++ [u]) = (A ++ e :: B') ++ [u] by simp, List.dropLast_concat]; rfl
        · rcases List.mem_cons.1 hy with rfl | hy
          · exact hsub _ (by simp)
          · exact hsub _ (List.mem_cons_of_mem _ (h4 y hy))
    · rw [if_neg hf]
      left
      refine ⟨s :: A, e, B, rfl, h2, h3, fun y hy => ?_⟩
      rcases List.mem_cons.1 hy with rfl | hy
      · exact hsub _ (by simp)
      · exact hsub _ (List.mem_cons_of_mem _ (h4 y hy))
theorem present_first {m key : Int} {L : List Ent} : Present key [] (lput m ⟨key, 77, false⟩ L) := by
  unfold lput
  cases hg : lget key L with
  | some x => exact ⟨[], _, _, rfl, rfl, rfl, by simp⟩
  | none =>
    simp only
    split
    · exact ⟨[], _, _, rfl, rfl, rfl, by simp⟩
    · exact ⟨[], _, _, rfl, rfl, rfl, by simp⟩
theorem present_get {key : Int} {K : List Int} {L : List Ent} (h : Present key K L) (hnd : (L.map (·.key)).Nodup) : lhas key L = true ∧ lval key L = 77 := by
  obtain ⟨A, e, B, rfl, h2, h3, h4⟩ := h
  have : lget key (A ++ e :: B) = some e := by
    clear h4
    induction A with
    | nil => rw [List.nil_append, lget, if_pos h2]
    | cons x A ih =>
      rw [List.cons_append, lget]
      have h5 := List.nodup_cons.1 (show (x.key :: (A ++ e :: B).map (·.key)).Nodup from hnd)
      rw [if_neg (fun hx => h5.1 (by rw [hx, ← h2]; simp))]
      exact ih h5.2
  exact ⟨by unfold lhas; rw [this]; rfl, by unfold lval; rw [this]; exact h3⟩
theorem lfront_length {k : Int} {L : List Ent} : (lfront k L).length = L.length := by
  unfold lfront
  cases hg : lget k L with
  | none => rfl
  | some s =>
    have hd := @ldel_length k L
    have hh : lhas k L = true := by unfold lhas; rw [hg]; rfl
    rw [hh] at hd
    cases L with
    | nil => cases hg
    | cons x r => simp at hd ⊢; omega
end Go.Proofs.Ytnickcjkipemmaa
