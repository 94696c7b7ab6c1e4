/- stripe: leaves that may be, of raw ones: the walk -/
import Derived.Test.YtdgcbjkopmlegaaM
import Derived.Deep.CutBlock
namespace Go.Proofs.Ytdgcbjkopmlegaa
open Go.RowKit

attribute [local go_sem ↓] Go.wp_at_zero Go.wp_at_succ

theorem info35 : (Try.prog.info? 35).map (fun i => (i.zero, i.size, i.bytes)) = some (some (.agg #[.slice none 0 0, .slice none 0 0]), 2, 48) := by kernel_rfl
theorem src_rec {w : World} {b : Nat} {cs : List Value} {t : TypeId} {fr : Nat × Nat} (h : w.heap[b]? = some (.cells cs.toArray t fr)) : Src w (some ⟨b, 0, none⟩) cs.length 1 cs := by
  refine ⟨by simp, (fun h => by cases h), fun ad ha j u hu => ?_⟩
  cases ha
  rw [Addr.add_lit, Nat.zero_add, cell_of_heap h]
  simpa using hu
theorem cell_new_at {w : World} {v : Value} {t : TypeId} {n : Nat} (h : w.heap.size = n) : (w.alloc (.cells #[v] t)).cell? ⟨n, 0, none⟩ = some v := by
  subst h; exact cell_new1 w v t
/-- what is known of raw leaves -/
def RawOk (raw : List Lf) : Prop := ∀ x ∈ raw, LfOk x ∧ (∀ s ∈ x.sl, (0 ≤ s.key ∧ s.key ≤ 4294967295) ∧ (-9223372036854775808 ≤ s.st ∧ s.st ≤ 9223372036854775807) ∧ (0 ≤ s.seq ∧ s.seq ≤ 18446744073709551615)) ∧ ∀ d ∈ x.se, ∀ v ∈ d, 0 ≤ v ∧ v ≤ 255
/-- what 'right' answers -/
def RightOut (w : World) (S n : Nat) (e : Ending) (w' : World) : Prop := ∃ L a' cap' Z, e = .returned (.slice a' L.length cap') ∧ OutL w' a' cap' L Z ∧ (∀ h ∈ L, Right S n h.x) ∧ L.length ≤ 12 ∧ Keeps Nil w w'

theorem BldL.empty {w : World} {S xb : Nat} (h : w.heap[xb]? = some (.cells #[.slice none 0 0, .slice none 0 0] 35)) : BldL w S xb none 0 none 0 [] ⟨[], []⟩ :=
  ⟨h, RecRow.nil w 44, RowAt.nil w 45 1, fun i d hd => by simp at hd, rfl, rfl⟩

theorem BldL.nab {w : World} {S xb : Nat} {sa ba : Option Addr} {sc bc : Nat} {ds : List Nat} {x : Lf} (h : BldL w S xb sa sc ba bc ds x) : ∀ g, blk ba = some g → ¬ blk sa = some g := fun g hg e => by
  rcases h.se.form with ⟨h1, _⟩ | ⟨g2, cur, h1, _, hh2, _⟩
  · rw [h1] at hg; cases hg
  · rw [h1] at hg
    have e0 : g2 = g := by simpa [blk] using hg
    subst e0
    rcases RowAt.form h.sl with ⟨h5, _⟩ | ⟨g3, cur3, h5, _, hh3, _⟩
    · rw [h5] at e; cases e
    · rw [h5] at e
      have e1 : g3 = g2 := by simpa [blk] using e
      subst e1
      rw [hh2] at hh3; injection hh3 with h3; injection h3 with _ h4 _; exact absurd h4 (by decide)
theorem BldL.snoc {w w5 w6 W : World} {S xb : Nat} {sa ba sa' ba' : Option Addr} {sc bc sc' bc' : Nat} {ds : List Nat} {x : Lf} {s : Sl} {r : List Int} {db : Nat} (h : BldL w S xb sa sc ba bc ds x)
    (hx : ∀ k, bown sa ba ds k → xb < k) (hdb : w.heap[db]? = some (.cells (dcells r).toArray 5)) (hdx : xb < db) (hr : r.length = S)
    (r5 : RowAt w5 44 3 sa' (x.sl.length + 1) sc' (recs slC x.sl ++ slC s)) (k5 : Keeps (fun j => blk sa = some j) w w5) (n5 : blk sa' = blk sa ∨ ∃ g, blk sa' = some g ∧ w.heap.size ≤ g)
    (r6 : RowAt w6 45 1 ba' (x.sl.length + 1) bc' (ds.map (dsl S) ++ [dsl S db])) (k6 : Keeps (fun j => j = xb ∨ blk ba = some j) w5 w6) (n6 : blk ba' = blk ba ∨ ∃ g, blk ba' = some g ∧ w5.heap.size ≤ g)
    (hk : Keeps (· = xb) w6 W) (hh : W.heap[xb]? = some (.cells #[.slice sa' (x.sl.length + 1) sc', .slice ba' (x.sl.length + 1) bc'] 35)) :
    BldL W S xb sa' sc' ba' bc' (ds ++ [db]) ⟨x.sl ++ [s], x.se ++ [r]⟩ ∧ ∀ k, bown sa' ba' (ds ++ [db]) k → xb < k := by
  have hxl : xb < w.heap.size := lt_of_heap h.head
  have hs1 := k5.size
  have ha : ∀ g, blk sa' = some g → xb < g := fun g hg => by
    rcases n5 with e | ⟨g', e, h2⟩
    · exact hx g (.inl (e ▸ hg))
    · rw [e] at hg; cases hg; omega
  have hb : ∀ g, blk ba' = some g → xb < g := fun g hg => by
    rcases n6 with e | ⟨g', e, h2⟩
    · exact hx g (.inr (.inl (e ▸ hg)))
    · rw [e] at hg; cases hg; omega
  -- no block of bytes is a row
  have no5 : ∀ {d : Nat} {q : List Int}, w.heap[d]? = some (.cells (dcells q).toArray 5) → ¬ blk sa = some d ∧ ¬ blk ba = some d := by
    intro d q hd
    constructor
    · intro e
      rcases RowAt.form h.sl with ⟨h1, _⟩ | ⟨g, cur, h1, _, hh2, _⟩
      · rw [h1] at e; cases e
      · rw [h1] at e; cases e
        rw [hd] at hh2; injection hh2 with h3; injection h3 with _ h4 _; exact absurd h4 (by decide)
    · intro e
      rcases h.se.form with ⟨h1, _⟩ | ⟨g, cur, h1, _, hh2, _⟩
      · rw [h1] at e; cases e
      · rw [h1] at e; cases e
        rw [hd] at hh2; injection hh2 with h3; injection h3 with _ h4 _; exact absurd h4 (by decide)
  -- the new row of slots is no row of sectors
  have nab : ∀ g, blk sa' = some g → ¬ blk ba = some g := fun g hg e => by
    rcases h.se.form with ⟨h1, _⟩ | ⟨g2, cur, h1, _, hh2, _⟩
    · rw [h1] at e; cases e
    · rw [h1] at e
      have e0 : g2 = g := by simpa [blk] using e
      subst e0
      rcases n5 with e2 | ⟨g', e2, h2⟩
      · rw [e2] at hg
        rcases RowAt.form h.sl with ⟨h5, _⟩ | ⟨g3, cur3, h5, _, hh3, _⟩
        · rw [h5] at hg; cases hg
        · rw [h5] at hg
          have e1 : g3 = g2 := by simpa [blk] using hg
          subst e1
          rw [hh2] at hh3; injection hh3 with h3; injection h3 with _ h4 _; exact absurd h4 (by decide)
      · rw [e2] at hg
        have e1 : g' = g2 := by simpa using hg
        have := lt_of_heap hh2
        omega
  have keep : ∀ {d : Nat} {q : List Int}, w.heap[d]? = some (.cells (dcells q).toArray 5) → xb < d → W.heap[d]? = some (.cells (dcells q).toArray 5) := by
    intro d q hd hxd
    obtain ⟨e1, e2⟩ := no5 hd
    exact hk.heap (k6.heap (k5.heap hd e1) (fun e => e.elim (fun e => by omega) e2)) (by omega)
  refine ⟨⟨by simpa using hh, ?_, ?_, ?_, by simp [h.n1], by simp [h.n2]⟩, ?_⟩
  · have h1 : RowAt w6 44 3 sa' (x.sl.length + 1) sc' (recs slC x.sl ++ slC s) := r5.keeps k6 (fun g hg e => e.elim (fun e => by have := ha g hg; omega) (nab g hg))
    have h2 := h1.keeps hk (fun g hg e => by have := ha g hg; omega)
    unfold RecRow
    rw [recs_app, recs_one]
    simpa using h2
  · have h2 := r6.keeps hk (fun g hg e => by have := hb g hg; omega)
    simpa using h2
  · intro i d hd
    by_cases hi : i < ds.length
    · rw [List.getElem?_append_left hi] at hd
      obtain ⟨q, h1, h2, h3⟩ := h.da i d hd
      refine ⟨q, ?_, h2, keep h3 (hx d (.inr (.inr (List.mem_of_getElem? hd))))⟩
      show (x.se ++ [r])[i]? = some q
      rw [List.getElem?_append_left (by have := h.n1; have := h.n2; omega)]
      exact h1
    · have hi2 : i < (ds ++ [db]).length := (List.getElem?_eq_some_iff.1 hd).1
      have hi3 : i = ds.length := by simp at hi2; omega
      subst hi3
      simp at hd
      subst hd
      refine ⟨r, ?_, hr, keep hdb hdx⟩
      show (x.se ++ [r])[ds.length]? = some r
      rw [List.getElem?_append_right (by have := h.n1; have := h.n2; omega)]
      have : ds.length - x.se.length = 0 := by have := h.n1; have := h.n2; omega
      rw [this]; rfl
  · rintro k (hk2 | hk2 | hk2)
    · exact ha k hk2
    · exact hb k hk2
    · rcases List.mem_append.1 hk2 with h1 | h1
      · exact hx k (.inr (.inr h1))
      · simp at h1; omega
end Go.Proofs.Ytdgcbjkopmlegaa
