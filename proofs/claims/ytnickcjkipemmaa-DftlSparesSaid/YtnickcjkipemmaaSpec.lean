/- what a cache does, on lists; the contracts in these words -/
import Derived.Test.YtnickcjkipemmaaAll
namespace Go.Proofs.Ytnickcjkipemmaa
open Go.RowKit

def lget (k : Int) : List Ent → Option Ent
  | [] => none
  | e :: r => if e.key = k then some e else lget k r
def ldel (k : Int) : List Ent → List Ent
  | [] => []
  | e :: r => if e.key = k then r else e :: ldel k r
def lval (k : Int) (L : List Ent) : Int := match lget k L with | some e => e.val | none => 0
def lent (k : Int) (L : List Ent) : Ent := match lget k L with | some e => e | none => ent0
def lhas (k : Int) (L : List Ent) : Bool := (lget k L).isSome
def lfront (k : Int) (L : List Ent) : List Ent := match lget k L with | some e => e :: ldel k L | none => L
def lput (most : Int) (e : Ent) (L : List Ent) : List Ent :=
  match lget e.key L with
  | some x => ⟨e.key, e.val, x.dirty || e.dirty⟩ :: ldel e.key L
  | none => if (L.length : Int) = most then e :: L.dropLast else e :: L
def lgone (most : Int) (e : Ent) (L : List Ent) : Ent :=
  match lget e.key L with
  | some _ => ent0
  | none => if (L.length : Int) = most then L.getLastD ent0 else ent0
def lfull (most : Int) (e : Ent) (L : List Ent) : Bool :=
  match lget e.key L with
  | some _ => false
  | none => decide ((L.length : Int) = most)

theorem lget_some {k : Int} {e : Ent} : ∀ {S : List Node}, lget k (S.map (·.2)) = some e → ∃ A s B, S = A ++ s :: B ∧ s.2 = e ∧ e.key = k ∧ ldel k (S.map (·.2)) = (A ++ B).map (·.2)
  | [], h => by cases h
  | s :: r, h => by
    rw [List.map_cons, lget] at h
    by_cases hk : s.2.key = k
    · rw [if_pos hk] at h
      cases h
      exact ⟨[], s, r, rfl, rfl, hk, by rw [List.map_cons, ldel, if_pos hk]; rfl⟩
    · rw [if_neg hk] at h
      obtain ⟨A, x, B, h1, h2, h3, h4⟩ := lget_some h
      exact ⟨s :: A, x, B, by rw [h1]; rfl, h2, h3, by rw [List.map_cons, ldel, if_neg hk, h4]; rfl⟩
theorem lget_none {k : Int} : ∀ {S : List Node}, lget k (S.map (·.2)) = none → ∀ s ∈ S, s.2.key ≠ k
  | [], _, _, hs => by cases hs
  | x :: r, h, s, hs => by
    rw [List.map_cons, lget] at h
    by_cases hk : x.2.key = k
    · rw [if_pos hk] at h; cases h
    · rw [if_neg hk] at h
      rcases List.mem_cons.1 hs with rfl | hs
      · exact hk
      · exact lget_none h s hs

/-- the cache at cb holds L, the one that was asked for last first; its blocks are O -/
def LruX (w : World) (cb : Nat) (most : Int) (L : List Ent) (O : Nat → Prop) : Prop := ∃ mb S, Lru w cb mb most S ∧ S.map (·.2) = L ∧ O = own cb mb S
/-- O' are blocks of O and new ones -/
def Grow (O O' : Nat → Prop) (w w' : World) : Prop := ∀ k, O' k → O k ∨ (w.heap.size ≤ k ∧ k < w'.heap.size)

theorem LruX.keeps {T : Nat → Prop} {w w' : World} {cb : Nat} {most : Int} {L : List Ent} {O : Nat → Prop} (h : LruX w cb most L O) (hk : Keeps T w w') (hn : ∀ k, O k → ¬ T k) : LruX w' cb most L O := by
  obtain ⟨mb, S, h1, h2, rfl⟩ := h
  exact ⟨mb, S, h1.keeps hk hn, h2, rfl⟩
theorem LruX.nil {w w' : World} {cb : Nat} {most : Int} {L : List Ent} {O : Nat → Prop} (h : LruX w cb most L O) (hk : Keeps Nil w w') : LruX w' cb most L O := h.keeps hk (fun _ _ h => h)
theorem LruX.lt {w : World} {cb : Nat} {most : Int} {L : List Ent} {O : Nat → Prop} (h : LruX w cb most L O) {k : Nat} (hk : O k) : k < w.heap.size := by
  obtain ⟨mb, S, h1, h2, rfl⟩ := h
  exact h1.toLruB.lt hk
theorem LruX.nodup {w : World} {cb : Nat} {most : Int} {L : List Ent} {O : Nat → Prop} (h : LruX w cb most L O) : (L.map (·.key)).Nodup := by
  obtain ⟨mb, S, h1, h2, rfl⟩ := h
  have := h1.keys
  rw [← h2]
  simpa [Function.comp_def] using this
theorem Grow.of_sub {O O' : Nat → Prop} {w w' : World} (h : ∀ k, O' k → O k) : Grow O O' w w' := fun k hk => .inl (h k hk)
theorem own_sub {cb mb : Nat} {S S' : List Node} (h : ∀ s ∈ S', s.1 ∈ S.map (·.1)) {k : Nat} (hk : own cb mb S' k) : own cb mb S k := by
  rcases hk with h1 | h1 | h1
  · exact .inl h1
  · exact .inr (.inl h1)
  · obtain ⟨s, hs, rfl⟩ := List.mem_map.1 h1
    exact .inr (.inr (h s hs))

def NewOut (w : World) (most : Int) (e : Ending) (w' : World) : Prop := ∃ cb O, e = .returned (.tuple #[.pointer (some ⟨cb, 0, none⟩), .int .i64 0]) ∧ LruX w' cb most [] O ∧ Keeps Nil w w' ∧ (∀ k, O k → w.heap.size ≤ k)
theorem newX (most : Int) (w : World) (hm : 1 ≤ most) : Calls Try.prog 14 #[.int .i64 most] w (NewOut w most) := by
  refine (new_any most w hm).mono ?_
  rintro e w' ⟨rfl, h1, h2, h3⟩
  refine ⟨_, _, rfl, ⟨_, _, h1, rfl, rfl⟩, h2, fun k hk => ?_⟩
  rcases hk with rfl | rfl | h
  · omega
  · exact Nat.le_refl _
  · cases h

def CacheOut (w : World) (cb : Nat) (most : Int) (O : Nat → Prop) (v : Value) (L' : List Ent) (e : Ending) (w' : World) : Prop := e = .returned v ∧ ∃ O', LruX w' cb most L' O' ∧ Keeps O w w' ∧ Grow O O' w w'
theorem getX {w : World} {cb : Nat} {most : Int} {L : List Ent} {O : Nat → Prop} (h : LruX w cb most L O) (k : Int) :
    Calls Try.prog 16 #[.pointer (some ⟨cb, 0, none⟩), .int .i64 k] w (CacheOut w cb most O (.tuple #[.int .u64 (lval k L), .bool (lhas k L)]) (lfront k L)) := by
  obtain ⟨mb, S, h1, rfl, rfl⟩ := h
  cases hg : lget k (S.map (·.2)) with
  | none =>
    refine (get_out h1 (lget_none hg)).mono ?_
    rintro e w' ⟨rfl, rfl⟩
    refine ⟨by unfold lval lhas; rw [hg]; rfl, _, ⟨mb, S, h1, by unfold lfront; rw [hg], rfl⟩, Keeps.refl _ _, fun k hk => .inl hk⟩
  | some e =>
    obtain ⟨A, s, B, rfl, rfl, rfl, h4⟩ := lget_some hg
    refine (get_in h1).mono ?_
    rintro e w' ⟨rfl, h5, h6, h7⟩
    refine ⟨by unfold lval lhas; rw [hg]; rfl, _, ⟨mb, _, h5, by unfold lfront; rw [hg]; simp only; rw [h4]; rfl, rfl⟩, h6, fun k hk => .inl ((own_perm List.perm_middle).2 hk)⟩
theorem dropX {w : World} {cb : Nat} {most : Int} {L : List Ent} {O : Nat → Prop} (h : LruX w cb most L O) (k : Int) :
    Calls Try.prog 18 #[.pointer (some ⟨cb, 0, none⟩), .int .i64 k] w (CacheOut w cb most O (.tuple #[entV (lent k L), .bool (lhas k L)]) (ldel k L)) := by
  obtain ⟨mb, S, h1, rfl, rfl⟩ := h
  cases hg : lget k (S.map (·.2)) with
  | none =>
    have hd : ∀ S : List Node, lget k (S.map (·.2)) = none → ldel k (S.map (·.2)) = S.map (·.2) := by
      intro S
      induction S with
      | nil => intro _; rfl
      | cons x r ih =>
        intro h
        rw [List.map_cons, lget] at h
        by_cases hk : x.2.key = k
        · rw [if_pos hk] at h; cases h
        · rw [if_neg hk] at h
          rw [List.map_cons, ldel, if_neg hk, ih h]
    refine (drop_out h1 (lget_none hg)).mono ?_
    rintro e w' ⟨rfl, h2⟩
    exact ⟨by unfold lent lhas; rw [hg]; rfl, _, ⟨mb, S, h1.keeps h2 (fun _ _ h => h), (hd S hg).symm, rfl⟩, h2.mono (fun _ h => h.elim), fun k hk => .inl hk⟩
  | some e =>
    obtain ⟨A, s, B, rfl, rfl, rfl, h4⟩ := lget_some hg
    refine (drop_in h1).mono ?_
    rintro e w' ⟨rfl, h5, h6⟩
    refine ⟨by unfold lent lhas; rw [hg]; rfl, _, ⟨mb, _, h5, h4.symm, rfl⟩, h6, fun k hk => .inl (own_sub (fun s hs => ?_) hk)⟩
    simp only [List.mem_append] at hs
    simp only [List.map_append, List.map_cons, List.mem_append, List.mem_cons]
    rcases hs with hs | hs
    · exact .inl (List.mem_map_of_mem (f := fun x : Node => x.1) hs)
    · exact .inr (.inr (List.mem_map_of_mem (f := fun x : Node => x.1) hs))
theorem putX' {w : World} {cb : Nat} {most : Int} {L : List Ent} {O : Nat → Prop} (h : LruX w cb most L O) (e : Ent) (hlen : (L.length : Int) ≤ most) (hm : 1 ≤ most) :
    Calls Try.prog 15 #[.pointer (some ⟨cb, 0, none⟩), .agg #[.int .i64 e.key, .int .u64 e.val, .bool e.dirty]] w (CacheOut w cb most O (.tuple #[entV (lgone most e L), .bool (lfull most e L)]) (lput most e L)) := by
  obtain ⟨mb, S, h1, rfl, rfl⟩ := h
  cases hg : lget e.key (S.map (·.2)) with
  | some x =>
    obtain ⟨A, s, B, rfl, rfl, h3, h4⟩ := lget_some hg
    refine (put_in h1 e h3.symm).mono ?_
    rintro en w' ⟨rfl, h5, h6⟩
    refine ⟨by unfold lgone lfull; rw [hg], _, ⟨mb, _, h5, by unfold lput; rw [hg]; simp only; rw [h4]; rfl, rfl⟩, h6, fun k hk => .inl (own_sub (fun s hs => ?_) hk)⟩
    simp only [List.mem_cons, List.mem_append] at hs
    simp only [List.map_append, List.map_cons, List.mem_append, List.mem_cons]
    rcases hs with rfl | hs | hs
    · exact .inr (.inl rfl)
    · exact .inl (List.mem_map_of_mem (f := fun x : Node => x.1) hs)
    · exact .inr (.inr (List.mem_map_of_mem (f := fun x : Node => x.1) hs))
  | none =>
    have hne := lget_none hg
    simp only [List.length_map] at hlen
    by_cases hf : (S.length : Int) = most
    · have hpos : S ≠ [] := by rintro rfl; simp at hf; omega
      obtain ⟨A, s, rfl⟩ : ∃ A s, S = A ++ [s] := by
        rcases snoc_cases S with h | h
        · exact absurd h hpos
        · exact h
      refine (put_full h1 e hne (by simpa using hf)).mono ?_
      rintro en w' ⟨rfl, nb, h2, h3, h5, h6⟩
      have hf' : (((A ++ [s]).map (·.2)).length : Int) = most := by simpa using hf
      refine ⟨?_, _, ⟨mb, _, h5, ?_, rfl⟩, h6, fun k hk => ?_⟩
      · have hgl : ((A ++ [s]).map (·.2)).getLastD ent0 = s.2 := by simp
        have a1 : lgone most e ((A ++ [s]).map (·.2)) = s.2 := by unfold lgone; rw [hg]; simp only; rw [if_pos hf', hgl]
        have a2 : lfull most e ((A ++ [s]).map (·.2)) = true := by unfold lfull; rw [hg]; simp only; exact decide_eq_true hf'
        rw [a1, a2]
      · unfold lput; rw [hg]; simp only; rw [if_pos hf']; simp
      · rcases hk with h | h | h
        · exact .inl (.inl h)
        · exact .inl (.inr (.inl h))
        · rw [List.map_cons, List.mem_cons] at h
          rcases h with h | h
          · exact .inr (by rw [h]; exact ⟨h2, h3⟩)
          · exact .inl (.inr (.inr (by rw [List.map_append, List.mem_append]; exact .inl h)))
    · refine (put_new h1 e hne (by omega)).mono ?_
      rintro en w' ⟨rfl, nb, h2, h3, h5, h6⟩
      have hf' : ¬ ((S.map (·.2)).length : Int) = most := by simpa using hf
      refine ⟨?_, _, ⟨mb, _, h5, ?_, rfl⟩, h6, fun k hk => ?_⟩
      · have a1 : lgone most e (S.map (·.2)) = ent0 := by unfold lgone; rw [hg]; simp only; rw [if_neg hf']
        have a2 : lfull most e (S.map (·.2)) = false := by unfold lfull; rw [hg]; simp only; exact decide_eq_false hf'
        rw [a1, a2]
      · unfold lput; rw [hg]; simp only; rw [if_neg hf']; simp
      · rcases hk with h | h | h
        · exact .inl (.inl h)
        · exact .inl (.inr (.inl h))
        · rw [List.map_cons, List.mem_cons] at h
          rcases h with h | h
          · exact .inr (by rw [h]; exact ⟨h2, h3⟩)
          · exact .inl (.inr (.inr h))
theorem lenX {w : World} {cb : Nat} {most : Int} {L : List Ent} {O : Nat → Prop} (h : LruX w cb most L O) :
    Calls Try.prog 17 #[.pointer (some ⟨cb, 0, none⟩)] w fun e w' => e = .returned (.int .i64 (L.length : Nat)) ∧ w = w' := by
  obtain ⟨mb, S, h1, rfl, rfl⟩ := h
  refine (len_any h1.toLruB).mono ?_
  rintro e w' ⟨rfl, rfl⟩
  exact ⟨by simp, rfl⟩
theorem allX {w : World} {cb : Nat} {most : Int} {L : List Ent} {O : Nat → Prop} (h : LruX w cb most L O) (hlen : L.length ≤ 1000000) : Calls Try.prog 19 #[.pointer (some ⟨cb, 0, none⟩)] w (AllOut w L) := by
  obtain ⟨mb, S, h1, rfl, rfl⟩ := h
  exact all_any h1 (by simpa using hlen)

/-! ### plain laws -/
theorem lhas_false {k : Int} {L : List Ent} : lhas k L = false ↔ k ∉ L.map (·.key) := by
  induction L with
  | nil => simp [lhas, lget]
  | cons e r ih =>
    unfold lhas at ih ⊢
    rw [lget]
    by_cases h : e.key = k
    · simp [h]
    · rw [if_neg h, ih]; simp [Ne.symm h]
theorem lhas_true {k : Int} {L : List Ent} : lhas k L = true ↔ k ∈ L.map (·.key) := by
  have := @lhas_false k L
  cases h : lhas k L
  · rw [h] at this; simp at this; simp; exact this
  · rw [h] at this; simp at this; simp; exact this
theorem ldel_length {k : Int} {L : List Ent} : (ldel k L).length = L.length - (if lhas k L = true then 1 else 0) := by
  induction L with
  | nil => rfl
  | cons e r ih =>
    unfold lhas at ih ⊢
    rw [ldel, lget]
    by_cases h : e.key = k
    · rw [if_pos h, if_pos h]; simp
    · rw [if_neg h, if_neg h, List.length_cons, List.length_cons, ih]
      split
      · rename_i h2
        cases r with
        | nil => simp [lget] at h2
        | cons x y => simp
      · rfl
theorem lput_length {most : Int} {e : Ent} {L : List Ent} (hm : 1 ≤ most) (h : (L.length : Int) ≤ most) : ((lput most e L).length : Int) ≤ most := by
  have hd := @ldel_length e.key L
  unfold lput
  unfold lhas at hd
  cases hg : lget e.key L with
  | some x =>
    simp only
    rw [hg] at hd
    cases L with
    | nil => cases hg
    | cons y z => simp at hd h ⊢; omega
  | none =>
    simp only
    by_cases hf : (L.length : Int) = most
    · rw [if_pos hf]; simp; omega
    · rw [if_neg hf]; simp; omega
theorem lput_new_length {most : Int} {e : Ent} {L : List Ent} : (lput most e L).length ≤ L.length + 1 := by
  have hd := @ldel_length e.key L
  unfold lput
  cases hg : lget e.key L with
  | some x => simp only [List.length_cons]; omega
  | none =>
    simp only
    split <;> simp
end Go.Proofs.Ytnickcjkipemmaa
