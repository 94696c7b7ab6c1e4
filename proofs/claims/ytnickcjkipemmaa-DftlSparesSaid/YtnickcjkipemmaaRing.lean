/- a ring of links in memory: plain laws on worlds. Each link is a block and an offset; its Entry lies at offsets 0..2, 'ahead' at 3, 'behind' at 4. -/
import Derived.Test.YtnickcjkipemmaaMaps
namespace Go.Proofs.Ytnickcjkipemmaa
open Go.RowKit

/-- Between w and w' cells of T alone were written. -/
structure Sets (T : Nat → Nat → Prop) (w w' : World) : Prop where
  os : w'.os = w.os
  tape : w'.tape = w.tape
  output : w'.output = w.output
  size : w'.heap.size = w.heap.size
  cell : ∀ b o, ¬ T b o → w'.cell? ⟨b, o, none⟩ = w.cell? ⟨b, o, none⟩
  there : ∀ b o, (w'.cell? ⟨b, o, none⟩).isSome = (w.cell? ⟨b, o, none⟩).isSome
  frozen : ∀ b o, w'.frozen? ⟨b, o, none⟩ = w.frozen? ⟨b, o, none⟩
  block : ∀ k, (∀ o, ¬ T k o) → w'.heap[k]? = w.heap[k]?
  kind : ∀ (k : Nat) (cs : Array Value) (t : TypeId), w.heap[k]? = some (Obj.cells cs t (0, 0)) → ∃ cs' : Array Value, w'.heap[k]? = some (Obj.cells cs' t (0, 0))

theorem Sets.refl (T : Nat → Nat → Prop) (w : World) : Sets T w w := ⟨rfl, rfl, rfl, rfl, fun _ _ _ => rfl, fun _ _ => rfl, fun _ _ => rfl, fun _ _ => rfl, fun _ cs _ h => ⟨cs, h⟩⟩
theorem Sets.trans {T : Nat → Nat → Prop} {a b c : World} (h : Sets T a b) (k : Sets T b c) : Sets T a c :=
  ⟨k.os.trans h.os, k.tape.trans h.tape, k.output.trans h.output, k.size.trans h.size, fun i o hn => (k.cell i o hn).trans (h.cell i o hn), fun i o => (k.there i o).trans (h.there i o),
    fun i o => (k.frozen i o).trans (h.frozen i o), fun i hn => (k.block i hn).trans (h.block i hn), fun i cs t hh => let ⟨cs', h'⟩ := h.kind i cs t hh; k.kind i cs' t h'⟩
theorem Sets.mono {T U : Nat → Nat → Prop} {a b : World} (h : Sets T a b) (hs : ∀ i o, T i o → U i o) : Sets U a b :=
  ⟨h.os, h.tape, h.output, h.size, fun i o hn => h.cell i o (fun x => hn (hs i o x)), h.there, h.frozen, fun i hn => h.block i (fun o x => hn o (hs i o x)), h.kind⟩
theorem Sets.drew {T : Nat → Nat → Prop} {a w : World} (h : Sets T a w) : Sets T a w.drew := ⟨h.os, h.tape, h.output, h.size, h.cell, h.there, h.frozen, h.block, h.kind⟩
theorem Sets.drewN {T : Nat → Nat → Prop} {a w : World} (h : Sets T a w) (n : Nat) : Sets T a (w.drewN n) := ⟨h.os, h.tape, h.output, h.size, h.cell, h.there, h.frozen, h.block, h.kind⟩
theorem Sets.of_keeps {w w' : World} (h : Keeps Nil w w') (hs : w'.heap.size = w.heap.size) : Sets (fun _ _ => False) w w' := by
  have hb : ∀ k, w'.heap[k]? = w.heap[k]? := fun k => by
    by_cases hk : k < w.heap.size
    · exact h.block k hk (fun h => h)
    · rw [Array.getElem?_eq_none (by omega), Array.getElem?_eq_none (by omega)]
  exact ⟨h.os, h.tape, h.output, hs, fun b o _ => World.cell?_of_block (w := w) (a := ⟨b, o, none⟩) (hb b), fun b o => by rw [World.cell?_of_block (w := w) (a := ⟨b, o, none⟩) (hb b)],
    fun b o => World.frozen?_of_block (w := w) (a := ⟨b, o, none⟩) (hb b), fun k _ => hb k, fun k cs _ hh => ⟨cs, (hb k).trans hh⟩⟩
theorem size_setCell (w : World) (a : Addr) (v : Value) : (w.setCell a v).heap.size = w.heap.size := by simp [World.setCell]
theorem Sets.setCell (w : World) (b o : Nat) (v : Value) : Sets (fun i j => i = b ∧ j = o) w (w.setCell ⟨b, o, none⟩ v) := by
  refine ⟨rfl, rfl, rfl, size_setCell _ _ _, fun i j hn => World.cell?_setCell_other _ _ _ _ (fun e => hn ?_), fun i j => ?_, fun i j => World.frozen?_setCell _ _ _ _, fun k hn => heap_setCell_other (fun e => hn o ⟨e, rfl⟩), fun k cs t hh => ?_⟩
  · cases e; exact ⟨rfl, rfl⟩
  · by_cases e : i = b ∧ j = o
    · obtain ⟨rfl, rfl⟩ := e
      cases hc : w.cell? ⟨i, j, none⟩ with
      | some u => rw [World.cell?_setCell_same _ _ _ hc]; rfl
      | none =>
        cases hc2 : (w.setCell ⟨i, j, none⟩ v).cell? ⟨i, j, none⟩ with
        | none => rfl
        | some u =>
          exfalso
          simp only [World.cell?, World.setCell, Array.getElem?_modify] at hc hc2
          simp only [if_true] at hc2
          cases hh : w.heap[i]? with
          | none => rw [hh] at hc2; simp at hc2
          | some x =>
            rw [hh] at hc hc2
            cases x <;> simp_all
    · rw [World.cell?_setCell_other _ _ _ _ (fun h => e (by cases h; exact ⟨rfl, rfl⟩))]
  · by_cases e : k = b
    · subst e; exact ⟨_, heap_setCell_same hh o v⟩
    · exact ⟨cs, by rw [heap_setCell_other e]; exact hh⟩
theorem Sets.keeps {T : Nat → Nat → Prop} {w w' : World} (h : Sets T w w') : Keeps (fun k => ∃ o, T k o) w w' :=
  ⟨h.os, h.tape, h.output, Nat.le_of_eq h.size.symm, fun k _ hn => h.block k (fun o ht => hn ⟨o, ht⟩)⟩

/-! ### links -/
abbrev Lk := Nat × Nat
def ah (l : Lk) : Addr := ⟨l.1, l.2 + 3, none⟩
def bh (l : Lk) : Addr := ⟨l.1, l.2 + 4, none⟩
def lp (l : Lk) : Value := .pointer (some ⟨l.1, l.2, none⟩)
def LinkAt (w : World) (p q : Lk) : Prop := w.cell? (bh p) = some (lp q) ∧ w.cell? (ah q) = some (lp p)
def Seq (w : World) : List Lk → Prop
  | a :: b :: l => LinkAt w a b ∧ Seq w (b :: l)
  | _ => True

theorem Seq.split {w : World} : ∀ {A : List Lk} {x : Lk} {B : List Lk}, Seq w (A ++ x :: B) ↔ Seq w (A ++ [x]) ∧ Seq w (x :: B)
  | [], x, B => by simp [Seq]
  | [a], x, B => by simp [Seq]
  | a :: b :: A, x, B => by
    have ih := @Seq.split w (b :: A) x B
    simp only [List.cons_append, Seq] at ih ⊢
    rw [ih, and_assoc]
theorem Seq.frame {w w' : World} : ∀ {l : List Lk}, Seq w l → (∀ p ∈ l.dropLast, w'.cell? (bh p) = w.cell? (bh p)) → (∀ q ∈ l.tail, w'.cell? (ah q) = w.cell? (ah q)) → Seq w' l
  | [], _, _, _ => trivial
  | [_], _, _, _ => trivial
  | a :: b :: l, h, h1, h2 => by
    refine ⟨⟨(h1 a (by simp)).trans h.1.1, (h2 b (by simp)).trans h.1.2⟩, Seq.frame h.2 (fun p hp => h1 p ?_) (fun q hq => h2 q ?_)⟩
    · rw [List.dropLast_cons_cons]; exact List.mem_cons_of_mem _ hp
    · exact List.mem_cons_of_mem _ hq

/-- the links that are written when u and v are tied together -/
def Tie (u v : Lk) : Nat → Nat → Prop := fun b o => (b = u.1 ∧ o = u.2 + 4) ∨ (b = v.1 ∧ o = v.2 + 3)
theorem Tie.bh {w w' : World} {u v p : Lk} (hs : Sets (Tie u v) w w') (h1 : p ≠ u) (h2 : p.1 = u.1 → p = u) (h3 : p.1 = v.1 → p = v) : w'.cell? (bh p) = w.cell? (bh p) := by
  refine hs.cell _ _ ?_
  rintro (⟨e, _⟩ | ⟨e, e2⟩)
  · exact h1 (h2 e)
  · have := h3 e; subst this; omega
theorem Tie.ah {w w' : World} {u v p : Lk} (hs : Sets (Tie u v) w w') (h1 : p ≠ v) (h2 : p.1 = u.1 → p = u) (h3 : p.1 = v.1 → p = v) : w'.cell? (ah p) = w.cell? (ah p) := by
  refine hs.cell _ _ ?_
  rintro (⟨e, e2⟩ | ⟨e, _⟩)
  · have := h2 e; subst this; omega
  · exact h1 (h3 e)

theorem snoc_cases {α : Type} : ∀ (l : List α), l = [] ∨ ∃ A u, l = A ++ [u] := fun l => by
  rcases List.eq_nil_or_concat l with h | ⟨A, u, h⟩
  · exact .inl h
  · exact .inr ⟨A, u, by rw [h]; simp⟩
/-- no two links of a list share a block -/
def Apart (L : List Lk) : Prop := (L.map (·.1)).Nodup
theorem Apart.inj {L : List Lk} (h : Apart L) {a b : Lk} (ha : a ∈ L) (hb : b ∈ L) (e : a.1 = b.1) : a = b := by
  unfold Apart at h
  rw [List.Nodup, List.pairwise_map] at h
  obtain ⟨i, hi, rfl⟩ := List.getElem_of_mem ha
  obtain ⟨j, hj, rfl⟩ := List.getElem_of_mem hb
  rw [List.pairwise_iff_getElem] at h
  rcases Nat.lt_trichotomy i j with hl | hl | hl
  · exact absurd e (h i j hi hj hl)
  · subst hl; rfl
  · exact absurd e.symm (h j i hj hi hl)
theorem Apart.nodup {L : List Lk} (h : Apart L) : L.Nodup := by
  unfold Apart at h
  rw [List.Nodup, List.pairwise_map] at h
  exact h.imp (fun h e => h (by rw [e]))

/-- a link x is taken out of the ring -/
theorem seq_out {w : World} {r x : Lk} {N M : List Lk} (h : Seq w (r :: (N ++ x :: M) ++ [r])) (ha : Apart (r :: (N ++ x :: M))) :
    ∃ u v : Lk, u ∈ r :: N ∧ v ∈ M ++ [r] ∧ w.cell? (ah x) = some (lp u) ∧ w.cell? (bh x) = some (lp v) ∧ (w.cell? (bh u)).isSome ∧ (w.cell? (ah v)).isSome ∧
      ∀ w', Sets (Tie u v) w w' → w'.cell? (bh u) = some (lp v) → w'.cell? (ah v) = some (lp u) → Seq w' (r :: (N ++ M) ++ [r]) := by
  obtain ⟨A, u, hu⟩ : ∃ A u, r :: N = A ++ [u] := by
    rcases snoc_cases (r :: N) with h | h
    · cases h
    · exact h
  obtain ⟨v, B, hv⟩ : ∃ v B, M ++ [r] = v :: B := by
    cases M with
    | nil => exact ⟨r, [], rfl⟩
    | cons v B => exact ⟨v, B ++ [r], rfl⟩
  have e1 : r :: (N ++ x :: M) ++ [r] = A ++ u :: (x :: v :: B) := by
    rw [← hv, show r :: (N ++ x :: M) ++ [r] = (r :: N) ++ x :: (M ++ [r]) by simp, hu]; simp
  have e2 : r :: (N ++ M) ++ [r] = A ++ u :: (v :: B) := by
    rw [← hv, show r :: (N ++ M) ++ [r] = (r :: N) ++ (M ++ [r]) by simp, hu]; simp
  rw [e1, Seq.split] at h
  obtain ⟨s1, l1, l2, s2⟩ := h
  have hum : u ∈ r :: N := by rw [hu]; simp
  have hvm : v ∈ M ++ [r] := by rw [hv]; simp
  have sub1 : ∀ p, p ∈ r :: N → p ∈ r :: (N ++ x :: M) := fun p hp => by simp only [List.mem_cons, List.mem_append] at hp ⊢; rcases hp with h | h <;> simp [h]
  have sub2 : ∀ p, p ∈ M ++ [r] → p ∈ r :: (N ++ x :: M) := fun p hp => by simp only [List.mem_cons, List.mem_append, List.not_mem_nil, or_false] at hp ⊢; rcases hp with h | h <;> simp [h]
  have hnd := ha.nodup
  have nd1 : (A ++ [u]).Nodup := by rw [← hu]; exact hnd.sublist (by simp)
  have nd2 : (v :: B).Nodup := by
    rw [← hv]
    have : (N ++ x :: M).Nodup ∧ r ∉ N ++ x :: M := by have := List.nodup_cons.1 hnd; exact ⟨this.2, this.1⟩
    rw [List.nodup_append]
    refine ⟨this.1.sublist ((List.sublist_cons_self x M).trans (List.sublist_append_right N (x :: M))), by simp, ?_⟩
    intro a ha' b hb e
    simp only [List.mem_cons, List.not_mem_nil, or_false] at hb
    subst hb; subst e
    exact this.2 (by simp [ha'])
  have inj := fun p (hp : p ∈ r :: (N ++ x :: M)) q (hq : q ∈ r :: (N ++ x :: M)) => ha.inj hp hq
  have hNM : ∀ p ∈ N, p ≠ v := by
    intro p hp e
    subst e
    have h1 := List.nodup_cons.1 hnd
    simp only [List.mem_append, List.mem_cons, List.not_mem_nil, or_false] at hvm
    rcases hvm with h2 | h2
    · have := (List.nodup_append.1 h1.2).2.2 p hp p (by simp [h2]); exact this rfl
    · subst h2; exact h1.1 (by simp [hp])
  have hMu : ∀ p ∈ M, p ≠ u := by
    intro p hp e
    subst e
    have h1 := List.nodup_cons.1 hnd
    simp only [List.mem_cons] at hum
    rcases hum with h2 | h2
    · subst h2; exact h1.1 (by simp [hp])
    · have := (List.nodup_append.1 h1.2).2.2 p h2 p (by simp [hp]); exact this rfl
  refine ⟨u, v, hum, hvm, l1.2, l2.1, by rw [l1.1]; rfl, by rw [l2.2]; rfl, fun w' hs k1 k2 => ?_⟩
  rw [e2, Seq.split]
  refine ⟨s1.frame (fun p hp => ?_) (fun q hq => ?_), ⟨k1, k2⟩, s2.frame (fun p hp => ?_) (fun q hq => ?_)⟩
  · have hpA : p ∈ A := by simpa using hp
    have hpm : p ∈ r :: N := by rw [hu]; simp [hpA]
    refine Tie.bh hs ?_ (inj p (sub1 p hpm) u (sub1 u hum)) (inj p (sub1 p hpm) v (sub2 v hvm))
    rintro rfl
    exact (List.nodup_append.1 nd1).2.2 p hpA p (by simp) rfl
  · have hqN : q ∈ N := by rw [← hu] at hq; simpa using hq
    have hqm : q ∈ r :: N := by simp [hqN]
    exact Tie.ah hs (hNM q hqN) (inj q (sub1 q hqm) u (sub1 u hum)) (inj q (sub1 q hqm) v (sub2 v hvm))
  · have hpM : p ∈ M := by rw [← hv] at hp; simpa using hp
    have hpm : p ∈ M ++ [r] := by simp [hpM]
    exact Tie.bh hs (hMu p hpM) (inj p (sub2 p hpm) u (sub1 u hum)) (inj p (sub2 p hpm) v (sub2 v hvm))
  · have hqB : q ∈ B := by simpa using hq
    have hqm : q ∈ M ++ [r] := by rw [hv]; simp [hqB]
    refine Tie.ah hs ?_ (inj q (sub2 q hqm) u (sub1 u hum)) (inj q (sub2 q hqm) v (sub2 v hvm))
    rintro rfl
    exact (List.nodup_cons.1 nd2).1 hqB

/-- a new link x is hung in as the first one behind the ring's head -/
theorem seq_first {w : World} {r x : Lk} {N : List Lk} (h : Seq w (r :: N ++ [r])) (ha : Apart (r :: x :: N)) :
    ∃ v : Lk, v ∈ N ++ [r] ∧ w.cell? (bh r) = some (lp v) ∧ (w.cell? (ah v)).isSome ∧
      ∀ w', Sets (fun b o => (b = r.1 ∧ o = r.2 + 4) ∨ (b = v.1 ∧ o = v.2 + 3) ∨ b = x.1) w w' → w'.cell? (ah x) = some (lp r) → w'.cell? (bh x) = some (lp v) → w'.cell? (bh r) = some (lp x) → w'.cell? (ah v) = some (lp x) →
        Seq w' (r :: (x :: N) ++ [r]) := by
  obtain ⟨v, B, hv⟩ : ∃ v B, N ++ [r] = v :: B := by
    cases N with
    | nil => exact ⟨r, [], rfl⟩
    | cons v B => exact ⟨v, B ++ [r], rfl⟩
  have e1 : r :: N ++ [r] = r :: v :: B := by rw [← hv]; simp
  have e2 : r :: (x :: N) ++ [r] = r :: x :: v :: B := by rw [← hv]; simp
  rw [e1] at h
  obtain ⟨l1, s2⟩ := h
  have hvm : v ∈ N ++ [r] := by rw [hv]; simp
  have hnd := ha.nodup
  have sub : ∀ p, p ∈ N ++ [r] → p ∈ r :: x :: N := fun p hp => by simp only [List.mem_cons, List.mem_append, List.not_mem_nil, or_false] at hp ⊢; rcases hp with h | h <;> simp [h]
  have hnx : ∀ p ∈ N ++ [r], p.1 ≠ x.1 := by
    intro p hp e
    have := ha.inj (sub p hp) (by simp) e
    subst this
    simp only [List.mem_append, List.mem_cons, List.not_mem_nil, or_false] at hp
    have h1 := List.nodup_cons.1 hnd
    rcases hp with h2 | h2
    · exact (List.nodup_cons.1 h1.2).1 h2
    · subst h2; exact h1.1 (by simp)
  have nd2 : (v :: B).Nodup := by
    rw [← hv]
    have h1 := List.nodup_cons.1 hnd
    rw [List.nodup_append]
    refine ⟨(List.nodup_cons.1 h1.2).2, by simp, ?_⟩
    intro a ha' b hb e
    simp only [List.mem_cons, List.not_mem_nil, or_false] at hb
    subst hb; subst e
    exact h1.1 (by simp [ha'])
  refine ⟨v, hvm, l1.1, by rw [l1.2]; rfl, fun w' hs k1 k2 k3 k4 => ?_⟩
  rw [e2]
  refine ⟨⟨k3, k1⟩, ⟨k2, k4⟩, s2.frame (fun p hp => ?_) (fun q hq => ?_)⟩
  · have hpN : p ∈ N := by rw [← hv] at hp; simpa using hp
    have hpm : p ∈ N ++ [r] := by simp [hpN]
    refine hs.cell _ _ ?_
    rintro (⟨e, _⟩ | ⟨e, e3⟩ | e)
    · have := ha.inj (sub p hpm) (by simp) e
      subst this
      exact (List.nodup_cons.1 hnd).1 (by simp [hpN])
    · have := ha.inj (sub p hpm) (sub v hvm) e
      subst this; omega
    · exact hnx p hpm e
  · have hqB : q ∈ B := by simpa using hq
    have hqm : q ∈ N ++ [r] := by rw [hv]; simp [hqB]
    refine hs.cell _ _ ?_
    rintro (⟨e, e3⟩ | ⟨e, _⟩ | e)
    · have := ha.inj (sub q hqm) (by simp) e
      subst this; omega
    · have := ha.inj (sub q hqm) (sub v hvm) e
      subst this
      exact (List.nodup_cons.1 nd2).1 hqB
    · exact hnx q hqm e
end Go.Proofs.Ytnickcjkipemmaa
