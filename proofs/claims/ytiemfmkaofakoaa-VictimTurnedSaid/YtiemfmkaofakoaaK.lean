/- VictimTurned: the plain law -/
import Derived.Test.YtiemfmkaofakoaaI
namespace Go.Proofs.Ytiemfmkaofakoaa
open Go.RowKit

def rowsT (f : Nat → Sup) (k : Nat) : List Sup := (List.range k).map f
theorem rowsT_len (f : Nat → Sup) (k : Nat) : (rowsT f k).length = k := by simp [rowsT]
theorem rowsT_get (f : Nat → Sup) {k j : Nat} (h : j < k) : (rowsT f k).getD j default = f j := by simp [rowsT, List.getD, h]
theorem rowsT_snoc (f : Nat → Sup) (k : Nat) : rowsT f (k + 1) = rowsT f k ++ [f k] := by simp [rowsT, List.range_succ]

/-- the rows with Ids of their own -/
def lN (l : Nat → Sup) : Nat → Sup := fun i => { l i with id := (i : Int) + 1 }
def tix (n t j : Nat) : Nat := (n - 1 - j + t) % n
def kN (l : Nat → Sup) (n t : Nat) : Nat → Sup := fun j => lN l (tix n t j)
theorem tix_lt {n t j : Nat} (hn : 0 < n) : tix n t j < n := Nat.mod_lt _ hn
theorem tix_val {n t j : Nat} (hj : j < n) (ht : t < n) : (n - 1 - j + t < n ∧ tix n t j = n - 1 - j + t) ∨ (n ≤ n - 1 - j + t ∧ tix n t j = n - 1 - j + t - n) := by
  unfold tix
  by_cases h : n - 1 - j + t < n
  · exact .inl ⟨h, Nat.mod_eq_of_lt h⟩
  · exact .inr ⟨by omega, by rw [Nat.mod_eq_sub_mod (by omega), Nat.mod_eq_of_lt (by omega)]⟩
theorem tix_tix {n t j : Nat} (hj : j < n) (ht : t < n) : tix n t (tix n t j) = j := by
  have h1 := tix_val hj ht
  have h2 := tix_val (n := n) (t := t) (j := tix n t j) (tix_lt (by omega)) ht
  omega
theorem lex_id {c : Sup → Sup → Int} {a b : Sup} (h : lex c a b = 0) : a.id = b.id := by
  unfold lex at h
  by_cases hc : c a b = 0
  · rw [if_pos hc] at h
    unfold cmpI at h
    by_cases h1 : a.id < b.id
    · rw [if_pos h1] at h; cases h
    · rw [if_neg h1] at h
      by_cases h2 : a.id > b.id
      · rw [if_pos h2] at h; cases h
      · omega
  · rw [if_neg hc] at h; exact absurd h hc

/-- either none, or one of the same Id -/
def Alike2 (l : Nat → Sup) (n t : Nat) (a b : Int) : Prop := (a = -1 ∧ b = -1) ∨ ∃ i j : Nat, a = i ∧ b = j ∧ i < n ∧ j < n ∧ (lN l i).id = (kN l n t j).id
theorem turn_agree {c : Sup → Sup → Int} (h : Ordr c) (p : Sup → Bool) (l : Nat → Sup) {n t : Nat} (hn : 0 < n) (ht : t < n) : Alike2 l n t (sel p (lN l) (ltB c) (-1) 0 n) (sel p (kN l n t) (ltB c) (-1) 0 n) := by
  have h1 := sel_best (p := p) (l := lN l) (lex_ordr h) (ltB c) (fun _ _ => rfl) n 0 (-1) (.inl ⟨rfl, fun j hj => by omega⟩)
  have h2 := sel_best (p := p) (l := kN l n t) (lex_ordr h) (ltB c) (fun _ _ => rfl) n 0 (-1) (.inl ⟨rfl, fun j hj => by omega⟩)
  rw [Nat.zero_add] at h1 h2
  rcases h1 with ⟨e1, n1⟩ | ⟨i, e1, b1⟩
  · rcases h2 with ⟨e2, _⟩ | ⟨j, e2, b2⟩
    · exact .inl ⟨e1, e2⟩
    · have := n1 (tix n t j) (tix_lt hn)
      have hm := b2.may
      unfold kN at hm
      rw [this] at hm; cases hm
  · rcases h2 with ⟨_, n2⟩ | ⟨j, e2, b2⟩
    · have := n2 (tix n t i) (tix_lt hn)
      unfold kN at this
      rw [tix_tix b1.lt ht] at this
      have hm := b1.may
      rw [this] at hm; cases hm
    · refine .inr ⟨i, j, e1, e2, b1.lt, b2.lt, lex_id (c := c) ?_⟩
      have q1 := b1.least (tix n t j) (tix_lt hn) b2.may
      have q2 := b2.least (tix n t i) (tix_lt hn) (by unfold kN; rw [tix_tix b1.lt ht]; exact b1.may)
      have e3 : kN l n t (tix n t i) = lN l i := by unfold kN; rw [tix_tix b1.lt ht]
      rw [e3] at q2
      have a1 := (lex_ordr h).anti (lN l i) (kN l n t j)
      have a2 := (lex_ordr h).anti (kN l n t j) (lN l i)
      have q1' : lex c (lN l i) (kN l n t j) ≤ 0 := q1
      omega
theorem turn_choose (l : Nat → Sup) {n t : Nat} (hn : 0 < n) (ht : t < n) (p : Int) (hp : p = 1 ∨ p = 2) : Alike2 l n t (chooseR (lN l) n p) (chooseR (kN l n t) n p) := by
  unfold chooseR
  rcases hp with rfl | rfl
  · rw [if_pos rfl, if_pos rfl]; exact turn_agree (key_ordr _) _ l hn ht
  · rw [if_neg (by decide), if_pos rfl, if_neg (by decide), if_pos rfl]; exact turn_agree benef_ordr _ l hn ht
theorem turn_cold (l : Nat → Sup) {n t : Nat} (hn : 0 < n) (ht : t < n) : Alike2 l n t (coldR (lN l) n 30 5) (coldR (kN l n t) n 30 5) := by
  unfold coldR
  rw [if_neg (by decide), if_neg (by decide)]; exact turn_agree (key_ordr _) _ l hn ht
theorem made_at {wr : World} {a : Option Addr} {cap : Nat} {f : Nat → Sup} {k : Nat} (h : SupRow wr a cap (rowsT f k)) : SupsAt wr a k f := by
  have h2 := h.sups
  rw [rowsT_len] at h2
  exact sups_congr h2 (fun j hj => rowsT_get f hj)
end Go.Proofs.Ytiemfmkaofakoaa
