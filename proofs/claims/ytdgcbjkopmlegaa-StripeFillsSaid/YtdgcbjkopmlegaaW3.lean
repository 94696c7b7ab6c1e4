/- stripe: a row that is being filled: Parity -/
import Derived.Test.YtdgcbjkopmlegaaW
namespace Go.Proofs.Ytdgcbjkopmlegaa
open Go.RowKit

attribute [local go_sem ↓] Go.wp_at_zero Go.wp_at_succ

theorem hp_at2 {X : World} {o o' : Obj} {n : Nat} (h : X.heap.size = n) : ((X.alloc o).alloc o').drew.heap[n]? = some o := by subst h; exact heap_alloc_old (heap_alloc_new X o)
/-- a leaf of the call's own is the one of a row of one -/
theorem OwnLf.leaves1 {w : World} {S n p sg bg : Nat} {ds : List Nat} {x : Lf} (h : OwnLf w S sg bg ds x) (h1 : x.sl.length = n) (h2 : x.se.length = n) (hp : w.heap[p]? = some (.cells #[.slice (some ⟨sg, 0, none⟩) n n, .slice (some ⟨bg, 0, none⟩) n n] 35)) : LeavesAt w (some ⟨p, 0, none⟩) [x] := by
  intro i hi
  have hi0 : i = 0 := by simp at hi; exact hi
  subst hi0
  refine ⟨p, 0, some ⟨sg, 0, none⟩, n, some ⟨bg, 0, none⟩, n, rfl, ?_, ?_, h.at⟩
  · show w.cell? ⟨p, 0, none⟩ = some (.slice _ x.sl.length n)
    rw [h1]; exact cell_of_heap hp 0
  · show w.cell? ⟨p, 1, none⟩ = some (.slice _ x.se.length n)
    rw [h2]; exact cell_of_heap hp 1
theorem par_laid {w2 w5 : World} {vb S sg bg : Nat} {ds : List Nat} {x : Lf} {c : Array Value} (hO : OwnLf w5 S sg bg ds x) (f5 : w5.heap[vb]? = some (.cells c 35)) (hc : c.size = 2) (hg : ∀ k, lown sg bg ds k → vb < k) (hk : Keeps Nil w2 w5) (hvb : w2.heap.size ≤ vb) (u v : Value) :
    ((w5.setCell ⟨vb, 0, none⟩ u).setCell ⟨vb, 1, none⟩ v).heap[vb]? = some (.cells #[u, v] 35) ∧ OwnLf ((w5.setCell ⟨vb, 0, none⟩ u).setCell ⟨vb, 1, none⟩ v) S sg bg ds x ∧ Keeps Nil w2 ((w5.setCell ⟨vb, 0, none⟩ u).setCell ⟨vb, 1, none⟩ v) := by
  refine ⟨?_, hO.keeps (((Keeps.refl (· = vb) w5).setCell (p := ⟨vb, 0, none⟩) (.inl rfl) u).setCell (p := ⟨vb, 1, none⟩) (.inl rfl) v) (fun k hk e => by have := hg k hk; omega), (hk.setCell (.inr hvb) _).setCell (.inr hvb) _⟩
  rw [heap_setCell_same (heap_setCell_same f5 0 u) 1 v]
  congr 2
  apply Array.ext
  · simp [hc]
  · intro i h1 h2
    have hi : i = 0 ∨ i = 1 := by simp at h2; omega
    rcases hi with rfl | rfl <;> simp [hc]
def ParOut (w : World) (S n : Nat) (p : Int) (x : Lf) (e : Ending) (w' : World) : Prop :=
  ∃ sg bg ds, e = .returned (.tuple #[.agg #[.slice (some ⟨sg, 0, none⟩) n n, .slice (some ⟨bg, 0, none⟩) n n], .int .i64 p, .int .i64 0]) ∧ OwnLf w' S sg bg ds x ∧ Keeps Nil w w' ∧ ∀ k, lown sg bg ds k → w.heap.size ≤ k

set_option maxHeartbeats 16000000 in
set_option maxRecDepth 100000 in
theorem par18x {w : World} {ob S n : Nat} {row width : Int} {k sg bg : Nat} {ds : List Nat} {x : Lf} (hS1 : 1 ≤ S) (hS2 : S ≤ 256) (hn1 : 1 ≤ n) (hn2 : n ≤ 8) (h : OpenB w ob S n row width k sg bg ds x) (hrow : row ≤ 9223372036854775807) :
    Calls Try.prog 18 #[.pointer (some ⟨ob, 0, none⟩)] w (ParOut w S n (plF row width) x) := by
  obtain ⟨p, hp⟩ : ∃ p, plF row width = p := ⟨_, rfl⟩
  have hP := Lib.hid (fun W => place10 row width W hrow)
  rw [hp] at hP ⊢
  have hs := Lib.hid (show ∀ (W : World) (b : Nat), Keeps Nil w W → W.heap[b]? = some (.cells #[.slice (some ⟨sg, 0, none⟩) n n, .slice (some ⟨bg, 0, none⟩) n n] 35) → Calls Try.prog 15 #[.agg #[.int .i64 S, .int .i64 n, .int .i64 1], .slice (some ⟨b, 0, none⟩) 1 1] W (SumOut W S n (some x)) from fun W b hk hb => by
    have := sum15_right hS1 hS2 hn1 hn2 W (some ⟨b, 0, none⟩) 1 1 [x] ((h.own.nil hk).leaves1 h.right.l1 h.right.l2 hb) (fun y hy => by simp at hy; rw [hy]; exact h.right) rfl (by omega)
    rwa [sumL_one h.right] at this)
  have h' := Lib.hid h
  have b0 := Lib.hid (heap_alloc_new w (.cells #[.slice none 0 0, .slice none 0 0] 35))
  have kA := Lib.hid ((Keeps.refl Nil w).alloc (.cells #[.slice none 0 0, .slice none 0 0] 35))
  have hLC := Lib.hid (show ∀ W, Keeps Nil w W → W.cell? ⟨ob, 0, none⟩ = some (.int .i64 S) ∧ W.cell? ⟨ob, 1, none⟩ = some (.int .i64 n) ∧ W.cell? ⟨ob, 2, none⟩ = some (.int .i64 1) ∧ W.cell? ⟨ob, 6, none⟩ = some (.slice (some ⟨sg, 0, none⟩) n n) ∧ W.cell? ⟨ob, 7, none⟩ = some (.slice (some ⟨bg, 0, none⟩) n n) from fun W hk => by
    have hh := hk.heap h.head (fun h => h)
    exact ⟨cell_of_heap hh 0, cell_of_heap hh 1, cell_of_heap hh 2, cell_of_heap hh 6, cell_of_heap hh 7⟩)
  clear h hp
  go_enter Try.func18, Try.ntmps18
  go_wp2_with fail
  obtain ⟨w2, hw2⟩ : ∃ w2, w.alloc (.cells #[.slice none 0 0, .slice none 0 0] 35) = w2 := ⟨_, rfl⟩
  have b02 := Lib.hid (show w2.heap[w.heap.size]? = some (.cells #[.slice none 0 0, .slice none 0 0] 35) from hw2 ▸ b0.out)
  have kA2 := Lib.hid (show Keeps Nil w w2 from hw2 ▸ kA.out)
  rw [hw2]
  clear hw2 b0 kA
  go_upto_region 4 with (fail)
  go_cut [5, 6, 10] (fun v5 _ _ wx => ∃ vb sg' bg' : Nat, ∃ ds' : List Nat, v5 = .pointer (some ⟨vb, 0, none⟩) ∧ wx.heap[vb]? = some (.cells #[.slice (some ⟨sg', 0, none⟩) n n, .slice (some ⟨bg', 0, none⟩) n n] 35) ∧ OwnLf wx S sg' bg' ds' x ∧ Keeps Nil w2 wx ∧ (∀ q, lown sg' bg' ds' q → w2.heap.size ≤ q) ∧ w2.heap.size ≤ vb)
  case first =>
    go_region_held3 (fun W => W.cell? ⟨ob, 0, none⟩ = some (.int .i64 S) ∧ W.cell? ⟨ob, 1, none⟩ = some (.int .i64 n) ∧ W.cell? ⟨ob, 2, none⟩ = some (.int .i64 1) ∧ W.cell? ⟨ob, 6, none⟩ = some (.slice (some ⟨sg, 0, none⟩) n n) ∧ W.cell? ⟨ob, 7, none⟩ = some (.slice (some ⟨bg, 0, none⟩) n n)) ((refine hLC.out _ (kA2.out.trans ?_); (repeat (first | exact Keeps.refl _ _ | exact k5'.out | with_reducible refine Keeps.drew ?_ | with_reducible refine Keeps.alloc ?_ _ | refine Keeps.setCell (p := ⟨_, _, none⟩) ?_ (.inr (by simp; done)) _)))) ((go_at_call 15; refine (hs.out _ _ (kA2.out.trans ?_) ?_).mono ?_; (repeat (first | exact Keeps.refl _ _ | with_reducible refine Keeps.drew ?_ | with_reducible refine Keeps.alloc ?_ _)); (first | exact hp_at0 rfl | exact hp_at rfl | exact heap_alloc_old (hp_at rfl) | exact heap_alloc_old (hp_at0 rfl) | exact hp_at2 rfl | exact hp_at (by simp)); rintro e w5 (⟨he, _⟩ | ⟨x5, sg5, bg5, ds5, hx5, rfl, hO5, hl5, hk5, hg5⟩); (cases he); (have hz5 := hk5.size); (have k5' : Hid (Keeps Nil w2 w5) := Keeps.trans (by repeat (first | exact Keeps.refl _ _ | with_reducible refine Keeps.drew ?_ | with_reducible refine Keeps.alloc ?_ _)) hk5); (simp at hz5 hg5); cases hx5; have hO5' := Lib.hid hO5; have hg5' := Lib.hid hg5; (first | (have f5 := hk5.heap (b := w2.heap.size) (show _ = some (.cells #[.slice none 0 0, .slice none 0 0] 35) from hp_at2 rfl) (fun h => h); have v0 := cell_of_heap f5 0; have v1 := cell_of_heap f5 1; simp at v0 v1; have vf0 := frozen_of_heap f5 0; have vf1 := frozen_of_heap f5 1; have f5' := Lib.hid f5; clear f5) | (have f5 := hk5.heap (b := w2.heap.size + 1) (show _ = some (.cells #[.slice none 0 0, .slice none 0 0] 35) from hp_at (by simp)) (fun h => h); have v0 := cell_of_heap f5 0; have v1 := cell_of_heap f5 1; simp at v0 v1; have vf0 := frozen_of_heap f5 0; have vf1 := frozen_of_heap f5 1; have f5' := Lib.hid f5; clear f5) | skip); clear hO5 hg5 hk5))
    all_goals
      go_wp2_with fail
      go_meet
    · exact ⟨w5.heap.size, sg5, bg5, ds5, rfl, heap_alloc_new w5 _, hO5'.out.nil ((Keeps.refl Nil w5).alloc _), k5'.out.alloc _, fun q hq => by have := hg5'.out q hq; omega, by omega⟩
    · obtain ⟨g1, g2, g3⟩ := par_laid hO5'.out f5'.out rfl (fun q hq => by have := hg5'.out q hq; omega) k5'.out (by omega) (.slice (some ⟨sg5, 0, none⟩) n n) (.slice (some ⟨bg5, 0, none⟩) n n)
      exact ⟨w2.heap.size + 1, sg5, bg5, ds5, rfl, g1, g2, g3, fun q hq => by have := hg5'.out q hq; omega, by omega⟩
    · obtain ⟨g1, g2, g3⟩ := par_laid hO5'.out f5'.out rfl (fun q hq => by have := hg5'.out q hq; omega) k5'.out (by omega) (.slice (some ⟨sg5, 0, none⟩) n n) (.slice (some ⟨bg5, 0, none⟩) n n)
      exact ⟨w2.heap.size, sg5, bg5, ds5, rfl, g1, g2, g3, fun q hq => by have := hg5'.out q hq; omega, by omega⟩
  case rest =>
    obtain ⟨vb, sg', bg', ds', rfl, hv, hO, hk, hg, hvb⟩ := hcut
    have v0 := cell_of_heap hv 0
    have v1 := cell_of_heap hv 1
    simp at v0 v1
    have hh := (kA2.out.trans hk).heap h'.out.head (fun h => h)
    have l3 := cell_of_heap hh 3
    have l4 := cell_of_heap hh 4
    simp at l3 l4
    have rh := hk.heap b02.out (fun h => h)
    have rf0 := frozen_of_heap rh 0
    have rf1 := frozen_of_heap rh 1
    have rl := lt_of_heap rh
    have r0 := cell_of_heap rh 0
    have r1 := cell_of_heap rh 1
    simp at r0 r1
    have hw2 : w.heap.size < w2.heap.size := lt_of_heap b02.out
    have hob2 : ob < w.heap.size := lt_of_heap h'.out.head
    have hLC2 := Lib.hid (show ∀ W, Keeps (· = w.heap.size) wc W → W.cell? ⟨vb, 0, none⟩ = some (.slice (some ⟨sg', 0, none⟩) n n) ∧ W.cell? ⟨vb, 1, none⟩ = some (.slice (some ⟨bg', 0, none⟩) n n) ∧ W.cell? ⟨ob, 3, none⟩ = some (.int .i64 row) ∧ W.cell? ⟨ob, 4, none⟩ = some (.int .i64 width) from fun W hk => ⟨hk.cell v0 (by omega), hk.cell v1 (by omega), hk.cell l3 (by omega), hk.cell l4 (by omega)⟩)
    have hO' := Lib.hid hO
    have hk' := Lib.hid (kA2.out.trans hk)
    have hg' := Lib.hid hg
    clear hv v0 v1 hh l3 l4 rh hO hk hg
    go_wp2_with fail
    go_region_held3 (fun W => W.cell? ⟨vb, 0, none⟩ = some (.slice (some ⟨sg', 0, none⟩) n n) ∧ W.cell? ⟨vb, 1, none⟩ = some (.slice (some ⟨bg', 0, none⟩) n n) ∧ W.cell? ⟨ob, 3, none⟩ = some (.int .i64 row) ∧ W.cell? ⟨ob, 4, none⟩ = some (.int .i64 width)) ((refine hLC2.out _ ?_; (repeat (first | exact Keeps.refl _ _ | with_reducible refine Keeps.drew ?_ | refine Keeps.setCell (p := ⟨_, _, none⟩) ?_ (.inl (by rfl)) _)))) ((go_at_call 10; refine (hP.out _).mono ?_; rintro e w6 ⟨rfl, rfl⟩))
    all_goals
      go_wp2_with fail
      refine bodyPost_ret (v := .tuple #[.agg #[.slice (some ⟨sg', 0, none⟩) n n, .slice (some ⟨bg', 0, none⟩) n n], .int .i64 p, .int .i64 0]) (by simp [results, Try.results18, go_sem, r0, r1]) rfl ?_
      refine ⟨sg', bg', ds', rfl, ?_, ?_, fun q hq => by have := hg'.out q hq; have := kA2.out.size; omega⟩
      · exact hO'.out.keeps (T := (· = w.heap.size)) (by repeat (first | exact Keeps.refl _ _ | with_reducible refine Keeps.drew ?_ | refine Keeps.setCell (p := ⟨_, _, none⟩) ?_ (.inl (by rfl)) _)) (fun q hq e => by have := hg'.out q hq; omega)
      · repeat (first | exact hk'.out | with_reducible refine Keeps.drew ?_ | refine Keeps.setCell (p := ⟨_, _, none⟩) ?_ (.inr (Nat.le_refl _)) _)
end Go.Proofs.Ytdgcbjkopmlegaa
