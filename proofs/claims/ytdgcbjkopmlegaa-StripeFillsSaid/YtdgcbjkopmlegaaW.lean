/- stripe: a row that is being filled: New, Left, Add -/
import Derived.Test.YtdgcbjkopmlegaaR4
import Derived.Test.YtdgcbjkopmlegaaJ
import Derived.Test.YtdgcbjkopmlegaaQ
import Derived.Deep.CutBlock
namespace Go.Proofs.Ytdgcbjkopmlegaa
open Go.RowKit

attribute [local go_sem ↓] Go.wp_at_zero Go.wp_at_succ

theorem heap_set_at {w : World} {b o : Nat} {c c' : Array Value} {t : TypeId} {f : Nat × Nat} {v : Value} (h : w.heap[b]? = some (.cells c t f)) (hc : c.setIfInBounds o v = c') : (w.setCell ⟨b, o, none⟩ v).heap[b]? = some (.cells c' t f) := by
  rw [heap_setCell_same h, hc]

/-- A row that is being filled, at ob: k leaves are in it, together x. -/
structure OpenB (w : World) (ob S n : Nat) (row width : Int) (k sg bg : Nat) (ds : List Nat) (x : Lf) : Prop where
  head : w.heap[ob]? = some (.cells #[.int .i64 S, .int .i64 n, .int .i64 1, .int .i64 row, .int .i64 width, .int .i64 k, .slice (some ⟨sg, 0, none⟩) n n, .slice (some ⟨bg, 0, none⟩) n n] 63)
  own : OwnLf w S sg bg ds x
  right : Right S n x
  apart : ¬ lown sg bg ds ob
def oown (ob sg bg : Nat) (ds : List Nat) (k : Nat) : Prop := k = ob ∨ lown sg bg ds k
theorem OpenB.keeps {T : Nat → Prop} {w w' : World} {ob S n : Nat} {row width : Int} {k sg bg : Nat} {ds : List Nat} {x : Lf} (h : OpenB w ob S n row width k sg bg ds x) (hk : Keeps T w w') (hn : ∀ q, oown ob sg bg ds q → ¬ T q) : OpenB w' ob S n row width k sg bg ds x :=
  ⟨hk.heap h.head (hn _ (.inl rfl)), h.own.keeps hk (fun q hq => hn q (.inr hq)), h.right, h.apart⟩
theorem OpenB.lt {w : World} {ob S n : Nat} {row width : Int} {k sg bg : Nat} {ds : List Nat} {x : Lf} (h : OpenB w ob S n row width k sg bg ds x) {q : Nat} (hq : oown ob sg bg ds q) : q < w.heap.size :=
  hq.elim (fun e => e ▸ lt_of_heap h.head) (fun e => h.own.lt e)
theorem plF_range {row width : Int} (h : 0 ≤ plF row width) : 0 ≤ row ∧ 2 ≤ width ∧ width ≤ 255 ∧ plF row width < width := by
  unfold plF at h ⊢
  cases hb : plOut row width
  · rw [hb] at h
    have h1 : ¬ (row < 0 ∨ width < 2 ∨ 255 < width) := by simpa [plOut] using hb
    have := Int.emod_nonneg row (show width ≠ 0 by omega)
    refine ⟨by omega, by omega, by omega, ?_⟩
    simp only [Bool.false_eq_true, if_false]
    omega
  · rw [hb] at h; simp at h

theorem sum15_right {S n : Nat} (hS1 : 1 ≤ S) (hS2 : S ≤ 256) (hn1 : 1 ≤ n) (hn2 : n ≤ 8) (W : World) (b : Option Addr) (c k : Nat) (Ls : List Lf) (h1 : LeavesAt W b Ls) (h2 : ∀ x ∈ Ls, Right S n x) (h3 : Ls.length = k) (h4 : k ≤ 1000) :
    Calls Try.prog 15 #[.agg #[.int .i64 S, .int .i64 n, .int .i64 1], .slice b k c] W (SumOut W S n (some (sumL S n Ls))) := by
  subst h3
  have := sum15_good (cap := c) (S : Int) (n : Int) S n 1 rfl rfl hS1 hS2 hn1 hn2 h1 (fun x hx => (h2 x hx).ok (by omega) (by omega)) (by omega)
  rw [right_all h2] at this
  exact this
theorem sum20_right {S n : Nat} (hS1 : 1 ≤ S) (hS2 : S ≤ 256) (hn1 : 1 ≤ n) (hn2 : n ≤ 8) (W : World) (b : Option Addr) (c k : Nat) (Ls : List Lf) (h1 : LeavesAt W b Ls) (h2 : ∀ x ∈ Ls, Right S n x) (h3 : Ls.length = k) (h4 : k ≤ 1000) :
    Calls Try.prog 20 #[.agg #[.int .i64 S, .int .i64 n, .int .i64 1], .slice b k c] W (RefOut W n (some (sumL S n Ls))) := by
  subst h3
  have := sum20_good (cap := c) (S : Int) (n : Int) S n 1 rfl rfl hS1 hS2 hn1 hn2 h1 (fun x hx => (h2 x hx).ok (by omega) (by omega)) (fun x hx s hs => by have := ((h2 x hx).sl s hs).2.2; omega) (by omega)
  rw [right_all h2] at this
  exact this

def NewOut (w : World) (S n : Nat) (row width : Int) (e : Ending) (w' : World) : Prop :=
  (plF row width < 0 ∧ e = .returned (.tuple #[.pointer none, .int .i64 1]) ∧ Keeps Nil w w') ∨
  (0 ≤ plF row width ∧ ∃ ob sg bg ds, e = .returned (.tuple #[.pointer (some ⟨ob, 0, none⟩), .int .i64 0]) ∧ OpenB w' ob S n row width 0 sg bg ds (zeroLf S n) ∧ Keeps Nil w w' ∧ ∀ k, oown ob sg bg ds k → w.heap.size ≤ k)
set_option maxHeartbeats 4000000 in
set_option maxRecDepth 100000 in
theorem new23 {w : World} {S n : Nat} (row width : Int) (hS1 : 1 ≤ S) (hS2 : S ≤ 256) (hn1 : 1 ≤ n) (hn2 : n ≤ 8) (hr : row ≤ 9223372036854775807) :
    Calls Try.prog 23 #[.agg #[.int .i64 S, .int .i64 n, .int .i64 1], .int .i64 row, .int .i64 width] w (NewOut w S n row width) := by
  have hs := Lib.hid (fun W => sum15_right hS1 hS2 hn1 hn2 W none 0 0 [] (fun i hi => by simp at hi) (fun x hx => by simp at hx) rfl (by omega))
  have hP := Lib.hid (fun W => place10 row width W hr)
  obtain ⟨p, hp⟩ : ∃ p, plF row width = p := ⟨_, rfl⟩
  rw [hp] at hP
  have hp' := Lib.hid hp
  clear hp
  by_cases hneg : p < 0
  · have d1 := decide_eq_true hneg
    go_enter Try.func23, Try.ntmps23
    go_wp2_with fail
    refine (hs.out _).mono ?_
    rintro e w1 (⟨h, _⟩ | ⟨x, sg, bg, ds, hx, rfl, hO, hxl, hk, hg⟩)
    · cases h
    have hk' := Lib.hid hk
    clear hO hxl hg hk hx
    go_wp2_with fail
    refine (hP.out _).mono ?_
    rintro e w2 ⟨rfl, rfl⟩
    go_wp2_with fail
    go_ret2
    exact .inl ⟨by rw [hp'.out]; exact hneg, rfl, (((Keeps.refl Nil w).alloc _).trans hk'.out).alloc _⟩
  · have d1 := decide_eq_false hneg
    have b0 := Lib.hid (heap_alloc_new w (.cells #[.int .i64 S, .int .i64 n, .int .i64 1] 27))
    go_enter Try.func23, Try.ntmps23
    go_wp2_with fail
    refine (hs.out _).mono ?_
    rintro e w1 (⟨h, _⟩ | ⟨x, sg, bg, ds, hx, rfl, hO, hxl, hk, hg⟩)
    · cases h
    cases hx
    have hz : sumL S n [] = zeroLf S n := rfl
    rw [hz] at hO
    have hO' := Lib.hid hO
    have hk' := Lib.hid hk
    have hg' := Lib.hid hg
    have hb := hk.heap b0.out (fun h => h)
    have l0 := cell_of_heap hb 0
    have l1 := cell_of_heap hb 1
    have l2 := cell_of_heap hb 2
    simp at l0 l1 l2
    have hwl := lt_of_heap hb
    clear hO hxl hg hk hb hz
    go_wp2_with fail
    refine (hP.out _).mono ?_
    rintro e w2 ⟨rfl, rfl⟩
    go_wp2_with fail
    go_ret2
    have kA := ((Keeps.refl Nil w1).alloc (.cells #[.slice (some ⟨sg, 0, none⟩) n n, .slice (some ⟨bg, 0, none⟩) n n] 35)).alloc (.cells #[.int .i64 S, .int .i64 n, .int .i64 1, .int .i64 row, .int .i64 width, .int .i64 0, .slice (some ⟨sg, 0, none⟩) n n, .slice (some ⟨bg, 0, none⟩) n n] 63)
    refine .inr ⟨by rw [hp'.out]; omega, w1.heap.size + 1, sg, bg, ds, rfl, ⟨?_, hO'.out.nil kA, Right.zero, fun h => by have := hO'.out.lt h; omega⟩, (((Keeps.refl Nil w).alloc _).trans hk'.out).trans kA, ?_⟩
    · have := heap_alloc_new (w1.alloc (.cells #[.slice (some ⟨sg, 0, none⟩) n n, .slice (some ⟨bg, 0, none⟩) n n] 35)) (.cells #[.int .i64 S, .int .i64 n, .int .i64 1, .int .i64 row, .int .i64 width, .int .i64 0, .slice (some ⟨sg, 0, none⟩) n n, .slice (some ⟨bg, 0, none⟩) n n] 63)
      rw [heap_alloc_size] at this
      exact this
    · rintro k (rfl | hk)
      · have := hk'.out.size; simp at this; omega
      · have := hg'.out k hk; simp at this; omega

set_option maxHeartbeats 4000000 in
set_option maxRecDepth 100000 in
theorem left19x {w : World} {ob S n : Nat} {row width : Int} {k sg bg : Nat} {ds : List Nat} {x : Lf} (h : OpenB w ob S n row width k sg bg ds x) (hw1 : 2 ≤ width) (hw2 : width ≤ 255) (hk : k ≤ 1000) :
    Calls Try.prog 19 #[.pointer (some ⟨ob, 0, none⟩)] w fun e w' => e = .returned (.int .i64 (width - 1 - k)) ∧ Keeps Nil w w' := by
  have l4 := cell_of_heap h.head 4
  have l5 := cell_of_heap h.head 5
  simp at l4 l5
  have x1 : wrap64 (width - 1) = width - 1 := by unfold wrap64; omega
  have x2 : wrap64 (width - 1 - (k : Int)) = width - 1 - k := by unfold wrap64; omega
  clear h
  go_enter Try.func19, Try.ntmps19
  go_wp2_with fail
  go_quiet (fail)
  go_wp2_with fail
  go_ret
  exact ⟨rfl, (Keeps.refl Nil w).drewN _⟩
end Go.Proofs.Ytdgcbjkopmlegaa
