/- rows of rows: slices of Super that the call makes; VictimEmpty: the plain law -/
import Derived.Test.YtiemfmkaofakoaaG
import Derived.Test.YtiemfmkaofakoaaArgs
namespace Go.Proofs.Ytiemfmkaofakoaa
open Go.RowKit

theorem Try.info30 : (Try.prog.info? 30).map (fun i => (i.zero, i.size, i.bytes)) = some (some (.agg #[.int .u32 0, .int .i64 0, .int .i64 0, .int .i64 0, .int .i64 0, .int .i64 0, .bool false]), 7, 56) := by kernel_rfl

def cellsOf (ls : List Sup) : List Value := ls.flatMap supC
theorem cellsOf_len : ∀ ls : List Sup, (cellsOf ls).length = ls.length * 7
  | [] => rfl
  | s :: r => by
    have ih := cellsOf_len r
    unfold cellsOf at ih ⊢
    rw [List.flatMap_cons, List.length_append, ih, List.length_cons]
    show 7 + r.length * 7 = (r.length + 1) * 7
    omega
theorem cellsOf_get : ∀ (ls : List Sup) (j i : Nat) (v : Value), i < 7 → j < ls.length → (supC (ls.getD j default))[i]? = some v → (cellsOf ls)[j * 7 + i]? = some v
  | [], j, i, v, _, h, _ => by simp at h
  | s :: r, 0, i, v, hi, _, hv => by
    unfold cellsOf
    rw [List.flatMap_cons, Nat.zero_mul, Nat.zero_add, List.getElem?_append_left (by show i < 7; exact hi)]
    exact hv
  | s :: r, j + 1, i, v, hi, hj, hv => by
    have ih := cellsOf_get r j i v hi (by simpa using hj) hv
    unfold cellsOf at ih ⊢
    rw [List.flatMap_cons, List.getElem?_append_right (by show 7 ≤ _; omega)]
    show (List.flatMap supC r)[(j + 1) * 7 + i - 7]? = some v
    rw [show (j + 1) * 7 + i - 7 = j * 7 + i by omega]
    exact ih
theorem cellsOf_one : ∀ (ls : List Sup), ∀ u ∈ cellsOf ls, u.oneCell' = true := by
  intro ls u hu
  unfold cellsOf at hu
  obtain ⟨s, _, hs⟩ := List.mem_flatMap.1 hu
  simp only [supC, List.mem_cons, List.not_mem_nil, or_false] at hs
  rcases hs with rfl | rfl | rfl | rfl | rfl | rfl | rfl <;> rfl

def SupRow (w : World) (a : Option Addr) (cap : Nat) (ls : List Sup) : Prop := RowAt w 30 7 a ls.length cap (cellsOf ls)
theorem SupRow.sups {w : World} {a : Option Addr} {cap : Nat} {ls : List Sup} (h : SupRow w a cap ls) : SupsAt w a ls.length (fun j => ls.getD j default) := by
  intro j hj
  rcases h.form with ⟨_, h2, _⟩ | ⟨g, cur, ha, hn, hh, hs, ht⟩
  · omega
  · refine ⟨g, 0, ha, ?_⟩
    subst ha
    have hc := fun i v (hi : i < 7) (hv : (supC (ls.getD j default))[i]? = some v) => (by
      have := h.src.2.2 ⟨g, 0, none⟩ rfl (j * 7 + i) v (cellsOf_get ls j i v hi hj hv)
      rw [Addr.add_lit] at this
      rw [Nat.add_assoc]
      exact this : w.cell? ⟨g, 0 + j * 7 + i, none⟩ = some v)
    exact ⟨hc 0 _ (by omega) rfl, hc 1 _ (by omega) rfl, hc 2 _ (by omega) rfl, hc 3 _ (by omega) rfl, hc 4 _ (by omega) rfl, hc 5 _ (by omega) rfl, hc 6 _ (by omega) rfl⟩
theorem SupRow.none {w : World} {a : Option Addr} {cap : Nat} {ls : List Sup} (h : SupRow w a cap ls) : a = none → cap = 0 := by
  intro ha
  rcases h.form with ⟨_, _, h3⟩ | ⟨g, cur, h2, _⟩
  · exact h3
  · rw [h2] at ha; cases ha
theorem sups_congr {w : World} {a : Option Addr} {n : Nat} {l l' : Nat → Sup} (h : SupsAt w a n l) (he : ∀ j, j < n → l j = l' j) : SupsAt w a n l' := fun j hj =>
  let ⟨b, off, h1, h2⟩ := h j hj
  ⟨b, off, h1, by rw [← he j hj]; exact h2⟩

/-- one new row, in a block of its own -/
theorem src_sup {w : World} {b : Nat} {s : Sup} (h : SupAt w b 0 s) : Src w (some ⟨b, 0, none⟩) 7 1 (supC s) := by
  refine ⟨rfl, (fun h => by cases h), fun ad ha j u hu => ?_⟩
  cases ha
  rw [Addr.add_lit]
  match j, hu with
  | 0, hu => cases hu; exact h.c0
  | 1, hu => cases hu; exact h.c1
  | 2, hu => cases hu; exact h.c2
  | 3, hu => cases hu; exact h.c3
  | 4, hu => cases hu; exact h.c4
  | 5, hu => cases hu; exact h.c5
  | 6, hu => cases hu; exact h.c6
  | j + 7, hu => simp [supC] at hu
theorem sup_new (w : World) (s : Sup) (t : TypeId) : SupAt (w.alloc (.cells #[.int .u32 s.id, .int .i64 s.live, .int .i64 s.slots, .int .i64 s.age, .int .i64 s.erases, .int .i64 s.reads, .bool s.sick] t)) w.heap.size 0 s := by
  constructor <;> (rw [World.cell?_alloc_at _ _ _ _ rfl]; rfl)

/-! ### the choice among all -/
theorem choose_best {l : Nat → Sup} {n i : Nat} {c : Sup → Sup → Int} (h : Ordr c) (hb : Best mayG l (lex c) n i) : sel mayG l (ltB c) (-1) 0 n = i := by
  rcases sel_best (p := mayG) (l := l) (lex_ordr h) (ltB c) (fun _ _ => rfl) n 0 (-1) (.inl ⟨rfl, fun j hj => by omega⟩) with ⟨_, h2⟩ | ⟨j, h1, h2⟩
  · have := h2 i (by have := hb.lt; omega)
    rw [hb.may] at this; cases this
  · rw [Nat.zero_add] at h2
    rw [h1, h2.unique (lex_ordr h) hb]

def empt : Sup := ⟨0, 0, 1, 0, 0, 0, false⟩
def some1 (x : Sup) : Sup := if x.live ≤ 0 then { x with live := 1 } else x
theorem some1_live (x : Sup) : 1 ≤ (some1 x).live := by unfold some1; split; exact Int.le_refl _; omega
/-- the rows that the law makes of the first i -/
def builtE (l : Nat → Sup) (p : Nat) : Nat → List Sup
  | 0 => []
  | i + 1 => (if i = p then builtE l p i ++ [empt] else builtE l p i) ++ [some1 (l i)]
theorem builtE_len (l : Nat → Sup) (p : Nat) : ∀ i, (builtE l p i).length = i + (if p < i then 1 else 0)
  | 0 => by simp [builtE]
  | i + 1 => by
    rw [builtE, List.length_append]
    by_cases h : i = p
    · rw [if_pos h, List.length_append, builtE_len l p i, if_neg (by omega), if_pos (by omega)]; simp
    · rw [if_neg h, builtE_len l p i]
      by_cases h2 : p < i
      · rw [if_pos h2, if_pos (by omega)]; simp
      · rw [if_neg h2, if_neg (by omega)]; simp
def allE (l : Nat → Sup) (p n : Nat) : List Sup := if p = n then builtE l p n ++ [empt] else builtE l p n
theorem allE_len {l : Nat → Sup} {p n : Nat} (h : p ≤ n) : (allE l p n).length = n + 1 := by
  unfold allE
  split
  · rw [List.length_append, builtE_len, if_neg (by omega)]; simp
  · rw [builtE_len, if_pos (by omega)]
theorem getD_snoc_last (l : List Sup) (x : Sup) : (l ++ [x]).getD l.length default = x := by simp
theorem getD_snoc_old (l : List Sup) (x : Sup) {j : Nat} (h : j < l.length) : (l ++ [x]).getD j default = l.getD j default := by
  simp [List.getD, List.getElem?_append_left h]
theorem builtE_get (l : Nat → Sup) (p : Nat) : ∀ i j, j < (builtE l p i).length → (j = p ∧ p < i ∧ (builtE l p i).getD j default = empt) ∨ (j ≠ p ∧ 1 ≤ ((builtE l p i).getD j default).live)
  | 0, j, h => by simp [builtE] at h
  | i + 1, j, h => by
    have hl := builtE_len l p i
    rw [builtE] at h ⊢
    by_cases hp : i = p
    · rw [if_pos hp] at h ⊢
      rw [if_neg (by omega)] at hl
      rw [List.length_append, List.length_append] at h
      simp only [List.length_cons, List.length_nil] at h
      by_cases h1 : j < i
      · rw [getD_snoc_old _ _ (by simp; omega), getD_snoc_old _ _ (by omega)]
        rcases builtE_get l p i j (by omega) with ⟨_, h3, _⟩ | h3
        · omega
        · exact .inr h3
      · by_cases h2 : j = i
        · left
          refine ⟨by omega, by omega, ?_⟩
          rw [getD_snoc_old _ _ (by simp; omega)]
          have : j = (builtE l p i).length := by omega
          rw [this, getD_snoc_last]
        · right
          refine ⟨by omega, ?_⟩
          have : j = (builtE l p i ++ [empt]).length := by simp; omega
          rw [this, getD_snoc_last]
          exact some1_live _
    · rw [if_neg hp] at h ⊢
      rw [List.length_append] at h
      simp only [List.length_cons, List.length_nil] at h
      by_cases h1 : j < (builtE l p i).length
      · rw [getD_snoc_old _ _ h1]
        rcases builtE_get l p i j h1 with ⟨h2, h3, h4⟩ | h3
        · exact .inl ⟨h2, by omega, h4⟩
        · exact .inr h3
      · right
        have e : j = (builtE l p i).length := by omega
        refine ⟨?_, by rw [e, getD_snoc_last]; exact some1_live _⟩
        by_cases h2 : p < i
        · rw [if_pos h2] at hl; omega
        · rw [if_neg h2] at hl; omega
theorem allE_get {l : Nat → Sup} {p n : Nat} (hp : p ≤ n) : ∀ j, j < n + 1 → (j = p ∧ (allE l p n).getD j default = empt) ∨ (j ≠ p ∧ 1 ≤ ((allE l p n).getD j default).live) := by
  intro j hj
  have hl := builtE_len l p n
  unfold allE
  by_cases h : p = n
  · rw [if_pos h]
    rw [if_neg (by omega)] at hl
    by_cases h1 : j < n
    · rw [getD_snoc_old _ _ (by omega)]
      rcases builtE_get l p n j (by omega) with ⟨_, h3, _⟩ | h3
      · omega
      · exact .inr h3
    · left
      have : j = (builtE l p n).length := by omega
      exact ⟨by omega, by rw [this, getD_snoc_last]⟩
  · rw [if_neg h]
    rw [if_pos (by omega)] at hl
    rcases builtE_get l p n j (by omega) with ⟨h2, _, h4⟩ | h3
    · exact .inl ⟨h2, h4⟩
    · exact .inr h3

theorem best_empty {c : Sup → Sup → Int} (h : Ordr c) (hc : ∀ x : Sup, 1 ≤ x.live → c empt x < 0) {K : Nat → Sup} {n p : Nat} (hp : p < n) (hK : ∀ j, j < n → (j = p ∧ K j = empt) ∨ (j ≠ p ∧ 1 ≤ (K j).live)) : Best mayG K (lex c) n p := by
  have hKp : K p = empt := by
    rcases hK p hp with ⟨_, h1⟩ | ⟨h1, _⟩
    · exact h1
    · exact absurd rfl h1
  have hlt : ∀ k, k < n → k ≠ p → lex c (K p) (K k) < 0 := by
    intro k hk hne
    rcases hK k hk with ⟨h1, _⟩ | ⟨_, h1⟩
    · exact absurd h1 hne
    · have := hc _ h1
      rw [hKp]; unfold lex; rw [if_neg (by omega)]; exact this
  refine ⟨hp, by rw [hKp]; decide, fun k hk _ => ?_, fun k hk _ => hlt k (by omega) (by omega)⟩
  by_cases e : k = p
  · rw [e, (lex_ordr h).refl]; exact Int.le_refl _
  · exact Int.le_of_lt (hlt k hk e)
theorem greedy_empt {x : Sup} (h : 1 ≤ x.live) : greedy empt x < 0 := by
  unfold greedy cmpI
  have e : inn empt.live = 0 := by decide
  have : 1 ≤ inn x.live := by unfold inn; rw [if_neg (by omega)]; split <;> omega
  rw [if_pos (by omega)]; omega
theorem benef_empt {x : Sup} (h : 1 ≤ x.live) : benef empt x < 0 := by
  unfold benef
  have e : den empt = 0 := by decide
  have : 2 ≤ den x := by unfold den inn; rw [if_neg (by omega)]; split <;> omega
  rw [if_pos (.inl e)]
  unfold cmpI
  rw [if_pos (by omega)]; omega
theorem empty_greedy {l : Nat → Sup} {p n : Nat} (hp : p ≤ n) : chooseR (fun j => (allE l p n).getD j default) (n + 1) 1 = p := by
  unfold chooseR; rw [if_pos rfl]
  exact choose_best (key_ordr _) (best_empty (c := greedy) (key_ordr _) (fun _ h => greedy_empt h) (by omega) (allE_get hp))
theorem empty_benef {l : Nat → Sup} {p n : Nat} (hp : p ≤ n) : chooseR (fun j => (allE l p n).getD j default) (n + 1) 2 = p := by
  unfold chooseR; rw [if_neg (by decide), if_pos rfl]
  exact choose_best benef_ordr (best_empty (c := benef) benef_ordr (fun _ h => benef_empt h) (by omega) (allE_get hp))
end Go.Proofs.Ytiemfmkaofakoaa
