/- which of some rows is the best: plain mathematics -/
import Init
namespace Go.Proofs.Ytiemfmkaofakoaa
/-- A row of blocks, as the Go struct has it. -/
structure Sup where
  id : Int
  live : Int
  slots : Int
  age : Int
  erases : Int
  reads : Int
  sick : Bool

/-- a number as it counts -/
def inn (n : Int) : Int := if n < 0 then 0 else if n > 1048576 then 1048576 else n
theorem inn_rng (n : Int) : 0 ≤ inn n ∧ inn n ≤ 1048576 := by unfold inn; split <;> (try split) <;> omega

def cmpI (a b : Int) : Int := if a < b then -1 else if a > b then 1 else 0

def sel (p : Sup → Bool) (l : Nat → Sup) (lt : Sup → Sup → Bool) (at_ : Int) (k : Nat) : Nat → Int
  | 0 => at_
  | f + 1 => if p (l k) && (decide (at_ < 0) || lt (l k) (l at_.toNat)) then sel p l lt k (k + 1) f else sel p l lt at_ (k + 1) f

/-- a comparison that orders -/
structure Ordr (c : Sup → Sup → Int) : Prop where
  anti : ∀ a b, c a b < 0 ↔ 0 < c b a
  trans : ∀ a b d, c a b ≤ 0 → c b d ≤ 0 → c a d ≤ 0

theorem Ordr.refl {c : Sup → Sup → Int} (h : Ordr c) (a : Sup) : c a a = 0 := by
  have := h.anti a a
  omega
theorem Ordr.trans_lt {c : Sup → Sup → Int} (h : Ordr c) {a b d : Sup} (h1 : c a b ≤ 0) (h2 : c b d < 0) : c a d < 0 := by
  apply Classical.byContradiction
  intro hn
  -- 0 ≤ c a d, so c d a ≤ 0
  have h3 : c d a ≤ 0 := by
    apply Classical.byContradiction
    intro hh
    have := (h.anti a d).2 (by omega)
    omega
  have h4 := h.trans d a b h3 h1
  have h5 := (h.anti b d).1 h2
  omega
theorem Ordr.lt_trans {c : Sup → Sup → Int} (h : Ordr c) {a b d : Sup} (h1 : c a b < 0) (h2 : c b d ≤ 0) : c a d < 0 := by
  apply Classical.byContradiction
  intro hn
  have h3 : c d a ≤ 0 := by
    apply Classical.byContradiction
    intro hh
    have := (h.anti a d).2 (by omega)
    omega
  have h4 := h.trans b d a h2 h3
  have h5 := (h.anti a b).1 h1
  omega

/-- The best one of those that may be: the first that none is ahead of. -/
structure Best (p : Sup → Bool) (l : Nat → Sup) (c : Sup → Sup → Int) (n : Nat) (i : Nat) : Prop where
  lt : i < n
  may : p (l i) = true
  least : ∀ k, k < n → p (l k) = true → c (l i) (l k) ≤ 0
  first : ∀ k, k < i → p (l k) = true → c (l i) (l k) < 0

theorem Best.unique {p : Sup → Bool} {l : Nat → Sup} {c : Sup → Sup → Int} (h : Ordr c) {n i j : Nat} (a : Best p l c n i) (b : Best p l c n j) : i = j := by
  rcases Nat.lt_trichotomy i j with hh | hh | hh
  · have h1 := b.first i hh a.may
    have h2 := a.least j b.lt b.may
    have := (h.anti _ _).1 h1
    omega
  · exact hh
  · have h1 := a.first j hh b.may
    have h2 := b.least i a.lt a.may
    have := (h.anti _ _).1 h1
    omega

theorem sel_best {p : Sup → Bool} {l : Nat → Sup} {c : Sup → Sup → Int} (h : Ordr c) (lt : Sup → Sup → Bool) (hlt : ∀ a b, lt a b = decide (c a b < 0)) :
    ∀ (f k : Nat) (at_ : Int), ((at_ = -1 ∧ ∀ j, j < k → p (l j) = false) ∨ ∃ i : Nat, at_ = i ∧ Best p l c k i) →
      ((sel p l lt at_ k f = -1 ∧ ∀ j, j < k + f → p (l j) = false) ∨ ∃ i : Nat, sel p l lt at_ k f = i ∧ Best p l c (k + f) i)
  | 0, k, at_, h0 => h0
  | f + 1, k, at_, h0 => by
    rw [sel]
    rw [show k + (f + 1) = k + 1 + f by omega]
    rcases h0 with ⟨rfl, hn⟩ | ⟨i, rfl, hb⟩
    · cases hp : p (l k)
      · simp only [Bool.false_and]
        refine sel_best h lt hlt f (k + 1) _ (.inl ⟨rfl, fun j hj => ?_⟩)
        by_cases e : j = k
        · rw [e, hp]
        · exact hn j (by omega)
      · simp only [Bool.true_and]
        rw [if_pos (by simp)]
        refine sel_best h lt hlt f (k + 1) _ (.inr ⟨k, rfl, ⟨by omega, hp, fun j hj hm => ?_, fun j hj hm => ?_⟩⟩)
        · by_cases e : j = k
          · rw [e, h.refl]; omega
          · rw [hn j (by omega)] at hm; cases hm
        · rw [hn j hj] at hm; cases hm
    · cases hp : p (l k)
      · simp only [Bool.false_and]
        refine sel_best h lt hlt f (k + 1) _ (.inr ⟨i, rfl, ⟨by have := hb.lt; omega, hb.may, fun j hj hm => ?_, hb.first⟩⟩)
        by_cases e : j = k
        · rw [e, hp] at hm; cases hm
        · exact hb.least j (by omega) hm
      · simp only [Bool.true_and, Int.toNat_natCast, hlt]
        by_cases hc : c (l k) (l i) < 0
        · rw [if_pos (by simp [hc])]
          refine sel_best h lt hlt f (k + 1) _ (.inr ⟨k, rfl, ⟨by omega, hp, fun j hj hm => ?_, fun j hj hm => ?_⟩⟩)
          · by_cases e : j = k
            · rw [e, h.refl]; exact Int.le_refl _
            · exact Int.le_of_lt (h.lt_trans hc (hb.least j (by omega) hm))
          · exact h.lt_trans hc (hb.least j hj hm)
        · rw [if_neg (by simp [hc])]
          have hge : c (l i) (l k) ≤ 0 := by
            apply Classical.byContradiction; intro hh
            exact hc ((h.anti _ _).2 (by omega))
          refine sel_best h lt hlt f (k + 1) _ (.inr ⟨i, rfl, ⟨by have := hb.lt; omega, hb.may, fun j hj hm => ?_, hb.first⟩⟩)
          by_cases e : j = k
          · rw [e]; exact hge
          · exact hb.least j (by omega) hm

/-- lexicographic: first c, then the Id -/
def lex (c : Sup → Sup → Int) (a b : Sup) : Int := if c a b = 0 then cmpI a.id b.id else c a b
theorem cmpI_anti (a b : Int) : cmpI a b < 0 ↔ 0 < cmpI b a := by unfold cmpI; split <;> split <;> (try split) <;> (try split) <;> omega
theorem cmpI_trans (a b d : Int) : cmpI a b ≤ 0 → cmpI b d ≤ 0 → cmpI a d ≤ 0 := by unfold cmpI; repeat' split
                                                                                    all_goals omega
theorem lex_ordr {c : Sup → Sup → Int} (h : Ordr c) : Ordr (lex c) := by
  constructor
  · intro a b
    unfold lex
    have h1 := h.anti a b
    have h2 := h.anti b a
    by_cases e : c a b = 0
    · rw [if_pos e, if_pos (by omega)]; exact cmpI_anti _ _
    · rw [if_neg e, if_neg (by omega)]; exact h1
  · intro a b d
    unfold lex
    by_cases e1 : c a b = 0 <;> by_cases e2 : c b d = 0
    · rw [if_pos e1, if_pos e2]
      intro g1 g2
      have h3 := h.trans a b d (by omega) (by omega)
      have ha := h.anti a b
      have hb := h.anti b a
      have hc := h.anti b d
      have hd := h.anti d b
      have h4 := h.trans d b a (by omega) (by omega)
      have he := h.anti a d
      have hf := h.anti d a
      rw [if_pos (by omega)]
      exact cmpI_trans _ _ _ g1 g2
    · rw [if_pos e1, if_neg e2]
      intro g1 g2
      have := h.trans_lt (a := a) (b := b) (d := d) (by omega) (by omega)
      rw [if_neg (by omega)]; omega
    · rw [if_neg e1, if_pos e2]
      intro g1 g2
      have := h.lt_trans (a := a) (b := b) (d := d) (by omega) (by omega)
      rw [if_neg (by omega)]; omega
    · rw [if_neg e1, if_neg e2]
      intro g1 g2
      have := h.trans_lt (a := a) (b := b) (d := d) (by omega) (by omega)
      rw [if_neg (by omega)]; omega

def greedy (a b : Sup) : Int := cmpI (inn a.live) (inn b.live)
def coldc (a b : Sup) : Int := cmpI (inn a.erases) (inn b.erases)
theorem key_ordr (f : Sup → Int) : Ordr (fun a b => cmpI (f a) (f b)) := ⟨fun _ _ => cmpI_anti _ _, fun _ _ _ => cmpI_trans _ _ _⟩

/-- benefit -/
def num (a : Sup) : Int := (inn a.slots - inn a.live) * inn a.age
def den (a : Sup) : Int := 2 * inn a.live
def benef (a b : Sup) : Int := if den a = 0 ∨ den b = 0 then cmpI (den a) (den b) else cmpI (num b * den a) (num a * den b)
theorem den_nn (a : Sup) : 0 ≤ den a ∧ den a ≤ 2097152 := by unfold den; have := inn_rng a.live; omega
theorem cmpI_le {a b : Int} : cmpI a b ≤ 0 ↔ a ≤ b := by unfold cmpI; split <;> (try split) <;> omega
theorem benef_ordr : Ordr benef := by
  constructor
  · intro a b
    unfold benef
    by_cases h : den a = 0 ∨ den b = 0
    · rw [if_pos h, if_pos (by omega)]; exact cmpI_anti _ _
    · rw [if_neg h, if_neg (by omega)]; exact cmpI_anti _ _
  · intro a b d
    have na := (den_nn a).1
    have nb := (den_nn b).1
    have nd := (den_nn d).1
    unfold benef
    by_cases ha : den a = 0
    · by_cases hd : den d = 0
      · intro _ _; rw [if_pos (.inl ha), cmpI_le]; omega
      · intro _ _; rw [if_pos (.inl ha), cmpI_le]; omega
    · by_cases hb : den b = 0
      · rw [if_pos (.inr hb), cmpI_le]; intro g; omega
      · by_cases hd : den d = 0
        · rw [if_neg (c := den a = 0 ∨ den b = 0) (by omega), if_pos (.inr hd), cmpI_le, cmpI_le]; intro _ g; omega
        · rw [if_neg (by omega), if_neg (by omega), if_neg (by omega), cmpI_le, cmpI_le, cmpI_le]
          intro g1 g2
          -- num b * den a ≤ num a * den b, num d * den b ≤ num b * den d
          have p1 : num b * den a * den d ≤ num a * den b * den d := Int.mul_le_mul_of_nonneg_right g1 nd
          have p2 : num d * den b * den a ≤ num b * den d * den a := Int.mul_le_mul_of_nonneg_right g2 na
          have p3 : den b * (num d * den a) ≤ den b * (num a * den d) := by
            have e1 : den b * (num d * den a) = num d * den b * den a := by rw [← Int.mul_assoc, Int.mul_comm (den b)]
            have e2 : den b * (num a * den d) = num a * den b * den d := by rw [← Int.mul_assoc, Int.mul_comm (den b)]
            have e3 : num b * den d * den a = num b * den a * den d := by rw [Int.mul_assoc, Int.mul_comm (den d), ← Int.mul_assoc]
            rw [e1, e2]; omega
          exact Int.le_of_mul_le_mul_left p3 (by omega)

/-! ### the reference's way: is the one at i the best? asked one by one -/
def badB (c : Sup → Sup → Int) (l : Nat → Sup) (i k : Nat) : Bool := decide (c (l k) (l i) < 0) || (decide (c (l k) (l i) = 0) && (decide ((l k).id < (l i).id) || (decide ((l k).id = (l i).id) && decide (k < i))))
def okTo (p : Sup → Bool) (l : Nat → Sup) (c : Sup → Sup → Int) (i : Nat) : Nat → Bool
  | 0 => p (l i)
  | k + 1 => okTo p l c i k && !(!(k == i) && p (l k) && badB c l i k)
theorem okTo_iff (p : Sup → Bool) (l : Nat → Sup) (c : Sup → Sup → Int) (i : Nat) : ∀ k, okTo p l c i k = true ↔ p (l i) = true ∧ ∀ j, j < k → j ≠ i → p (l j) = true → badB c l i j = false
  | 0 => by simp [okTo]
  | k + 1 => by
    rw [okTo, Bool.and_eq_true, okTo_iff p l c i k]
    constructor
    · rintro ⟨⟨h1, h2⟩, h3⟩
      refine ⟨h1, fun j hj hne hp => ?_⟩
      by_cases e : j = k
      · subst e
        cases hb : badB c l i j
        · rfl
        · rw [hp, hb] at h3; simp [hne] at h3
      · exact h2 j (by omega) hne hp
    · rintro ⟨h1, h2⟩
      refine ⟨⟨h1, fun j hj => h2 j (by omega)⟩, ?_⟩
      by_cases e : k = i
      · simp [e]
      · cases hp : p (l k)
        · simp
        · rw [h2 k (by omega) e hp]; simp
theorem bad_iff {c : Sup → Sup → Int} (h : Ordr c) (l : Nat → Sup) {i k : Nat} (hk : k ≠ i) : badB c l i k = false ↔ lex c (l i) (l k) ≤ 0 ∧ (k < i → lex c (l i) (l k) < 0) := by
  have h1 := h.anti (l i) (l k)
  have h2 := h.anti (l k) (l i)
  unfold badB lex cmpI
  simp only [Bool.or_eq_false_iff, Bool.and_eq_false_iff, decide_eq_false_iff_not]
  by_cases e : c (l i) (l k) = 0
  · rw [if_pos e]
    have e' : c (l k) (l i) = 0 := by omega
    by_cases a1 : (l i).id < (l k).id
    · rw [if_pos a1]; omega
    · rw [if_neg a1]
      by_cases a2 : (l i).id > (l k).id
      · rw [if_pos a2]; omega
      · rw [if_neg a2]; omega
  · rw [if_neg e]; omega
theorem okTo_best {p : Sup → Bool} {l : Nat → Sup} {c : Sup → Sup → Int} (h : Ordr c) {n i : Nat} (hi : i < n) : okTo p l c i n = true ↔ Best p l (lex c) n i := by
  rw [okTo_iff]
  constructor
  · rintro ⟨h1, h2⟩
    refine ⟨hi, h1, fun k hk hp => ?_, fun k hk hp => ?_⟩
    · by_cases e : k = i
      · rw [e, (lex_ordr h).refl]; omega
      · exact ((bad_iff h l e).1 (h2 k hk e hp)).1
    · exact ((bad_iff h l (by omega)).1 (h2 k (by omega) (by omega) hp)).2 hk
  · rintro ⟨_, h1, h2, h3⟩
    exact ⟨h1, fun j hj hne hp => (bad_iff h l hne).2 ⟨h2 j hj hp, fun hlt => h3 j hlt hp⟩⟩
def refSel (p : Sup → Bool) (l : Nat → Sup) (c : Sup → Sup → Int) (n i : Nat) : Nat → Int
  | 0 => -1
  | f + 1 => if okTo p l c i n then i else refSel p l c n (i + 1) f
theorem refSel_some {p : Sup → Bool} {l : Nat → Sup} {c : Sup → Sup → Int} (h : Ordr c) {n b : Nat} (hb : Best p l (lex c) n b) : ∀ (f i : Nat), i + f = n → i ≤ b → refSel p l c n i f = b
  | 0, i, h1, h2 => by have := hb.lt; omega
  | f + 1, i, h1, h2 => by
    rw [refSel]
    by_cases e : okTo p l c i n = true
    · rw [if_pos e]
      have := ((okTo_best h (by omega)).1 e).unique (lex_ordr h) hb
      rw [this]
    · rw [if_neg e]
      have hne : i ≠ b := fun e2 => e ((okTo_best h (by omega)).2 (e2 ▸ hb))
      exact refSel_some h hb f (i + 1) (by omega) (by omega)
theorem refSel_none {p : Sup → Bool} {l : Nat → Sup} {c : Sup → Sup → Int} {n : Nat} (hn : ∀ j, j < n → p (l j) = false) : ∀ (f i : Nat), i + f = n → refSel p l c n i f = -1
  | 0, i, h1 => rfl
  | f + 1, i, h1 => by
    rw [refSel, if_neg]
    · exact refSel_none hn f (i + 1) (by omega)
    · intro e
      have := ((okTo_iff p l c i n).1 e).1
      rw [hn i (by omega)] at this; cases this
/-- The program's way and the reference's come to one. -/
theorem sel_ref {p : Sup → Bool} {l : Nat → Sup} {c : Sup → Sup → Int} (h : Ordr c) (lt : Sup → Sup → Bool) (hlt : ∀ a b, lt a b = decide (lex c a b < 0)) (n : Nat) : sel p l lt (-1) 0 n = refSel p l c n 0 n := by
  rcases sel_best (lex_ordr h) lt hlt n 0 (-1) (.inl ⟨rfl, fun j hj => by omega⟩) with ⟨h1, h2⟩ | ⟨i, h1, h2⟩
  · rw [h1, refSel_none (fun j hj => h2 j (by omega)) n 0 (by omega)]
  · rw [Nat.zero_add] at h2
    rw [h1, refSel_some h h2 n 0 (by omega) (by omega)]

end Go.Proofs.Ytiemfmkaofakoaa
