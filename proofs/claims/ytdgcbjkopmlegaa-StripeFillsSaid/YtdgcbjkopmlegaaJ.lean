/- stripe: places; awake -/
import Derived.Test.YtdgcbjkopmlegaaG
import Derived.Test.YtdgcbjkopmlegaaI
namespace Go.Proofs.Ytdgcbjkopmlegaa
open Go.RowKit

attribute [local go_sem ↓] Go.wp_at_zero Go.wp_at_succ

def plOut (row width : Int) : Bool := decide (row < 0 ∨ width < 2 ∨ 255 < width)
def plF (row width : Int) : Int := if plOut row width = true then -1 else width - 1 - row % width
theorem plF_out {row width : Int} (h : plOut row width = true) : plF row width = -1 := if_pos h
theorem plF_in {row width : Int} (h : plOut row width = false) : plF row width = width - 1 - row % width := if_neg (by rw [h]; decide)
set_option maxHeartbeats 2000000 in
theorem place10 (row width : Int) (w : World) (hr : row ≤ 9223372036854775807) : Calls Try.prog 10 #[.int .i64 row, .int .i64 width] w fun e w' => e = .returned (.int .i64 (plF row width)) ∧ w = w' := by
  by_cases h1 : row < 0
  · have e := Lib.hid (plF_out (row := row) (width := width) (decide_eq_true (.inl h1)))
    have d1 := decide_eq_true h1
    go_enter Try.func10, Try.ntmps10
    go_wp2_with fail
    go_ret
    exact ⟨ret_int e.out.symm, rfl⟩
  · have d1 := decide_eq_false h1
    by_cases h2 : width < 2
    · have e := Lib.hid (plF_out (row := row) (width := width) (decide_eq_true (.inr (.inl h2))))
      have d2 := decide_eq_true h2
      go_enter Try.func10, Try.ntmps10
      go_wp2_with fail
      go_ret
      exact ⟨ret_int e.out.symm, rfl⟩
    · have d2 := decide_eq_false h2
      by_cases h3 : 255 < width
      · have e := Lib.hid (plF_out (row := row) (width := width) (decide_eq_true (.inr (.inr h3))))
        have d3 := decide_eq_true h3
        go_enter Try.func10, Try.ntmps10
        go_wp2_with fail
        go_ret
        exact ⟨ret_int e.out.symm, rfl⟩
      · have e := Lib.hid (plF_in (row := row) (width := width) (decide_eq_false (by omega)))
        have d3 := decide_eq_false h3
        have k1 := Int.emod_nonneg row (show width ≠ 0 by omega)
        have k2 := Int.emod_lt_of_pos row (show 0 < width by omega)
        have k3 : ¬ width = 0 := by omega
        go_enter Try.func10, Try.ntmps10
        go_wp2_with fail
        go_ret
        exact ⟨ret_int e.out.symm, rfl⟩
set_option maxHeartbeats 2000000 in
theorem place11 (row width : Int) (w : World) (hr : row ≤ 9223372036854775807) : Calls Try.prog 11 #[.int .i64 row, .int .i64 width] w fun e w' => e = .returned (.int .i64 (plF row width)) ∧ w = w' := by
  by_cases h1 : row < 0
  · have e := Lib.hid (plF_out (row := row) (width := width) (decide_eq_true (.inl h1)))
    have d1 := decide_eq_true h1
    go_enter Try.func11, Try.ntmps11
    go_wp2_with fail
    go_ret
    exact ⟨ret_int e.out.symm, rfl⟩
  · have d1 := decide_eq_false h1
    by_cases h2 : width < 2
    · have e := Lib.hid (plF_out (row := row) (width := width) (decide_eq_true (.inr (.inl h2))))
      have d2 := decide_eq_true h2
      go_enter Try.func11, Try.ntmps11
      go_wp2_with fail
      go_ret
      exact ⟨ret_int e.out.symm, rfl⟩
    · have d2 := decide_eq_false h2
      by_cases h3 : 255 < width
      · have e := Lib.hid (plF_out (row := row) (width := width) (decide_eq_true (.inr (.inr h3))))
        have d3 := decide_eq_true h3
        go_enter Try.func11, Try.ntmps11
        go_wp2_with fail
        go_ret
        exact ⟨ret_int e.out.symm, rfl⟩
      · have e := Lib.hid (plF_in (row := row) (width := width) (decide_eq_false (by omega)))
        have d3 := decide_eq_false h3
        have k1 := Int.emod_nonneg row (show width ≠ 0 by omega)
        have k2 := Int.emod_lt_of_pos row (show 0 < width by omega)
        have k3 : ¬ width = 0 := by omega
        go_enter Try.func11, Try.ntmps11
        go_wp2_with fail
        go_ret
        exact ⟨ret_int e.out.symm, rfl⟩

def lfA : Lf := ⟨[⟨5, 1, 1⟩], [[97]]⟩
def lfB : Lf := ⟨[⟨3, 1, 3⟩], [[98]]⟩
def lfC : Lf := ⟨[⟨6, 0, 2⟩], [[3]]⟩
theorem sum_awake : sumIf 1 1 [lfA, lfB] = some lfC := by decide +kernel
theorem lf_one {W : World} {s d r : Nat} {ks ss qs b : Int} (h1 : W.heap[s]? = some (.cells #[.int .u32 ks, .int .i64 ss, .int .u64 qs] 44)) (h2 : W.heap[d]? = some (.cells #[.int .u8 b] 5)) (h3 : W.heap[r]? = some (.cells #[.slice (some ⟨d, 0, none⟩) 1 1] 45)) : LfAt W (some ⟨s, 0, none⟩) (some ⟨r, 0, none⟩) ⟨[⟨ks, ss, qs⟩], [[b]]⟩ := by
  refine ⟨fun i hi => ?_, fun i hi => ?_⟩
  · have : i = 0 := by simp at hi; omega
    subst this
    exact ⟨s, 0, rfl, cell_of_heap h1 0, cell_of_heap h1 1, cell_of_heap h1 2⟩
  · have : i = 0 := by simp at hi; omega
    subst this
    refine ⟨r, 0, some ⟨d, 0, none⟩, 1, rfl, cell_of_heap h3 0, fun j hj => ?_⟩
    have : j = 0 := by simp at hj; omega
    subst this
    exact ⟨d, 0, rfl, cell_of_heap h2 0⟩
abbrev awW (w : World) : World := (((((((((w.alloc (.cells #[.int .i64 1, .int .i64 1, .int .i64 1] 27)).alloc (.cells #[.int .u32 5, .int .i64 1, .int .u64 1] 44)).alloc (.cells #[.int .u8 97] 5)).alloc (.cells #[.slice (some ⟨w.heap.size + 1 + 1, 0, none⟩) 1 1] 45)).alloc (.cells #[.slice (some ⟨w.heap.size + 1, 0, none⟩) 1 1, .slice (some ⟨w.heap.size + 1 + 1 + 1, 0, none⟩) 1 1] 35)).alloc (.cells #[.int .u32 3, .int .i64 1, .int .u64 3] 44)).alloc (.cells #[.int .u8 98] 5)).alloc (.cells #[.slice (some ⟨w.heap.size + 1 + 1 + 1 + 1 + 1 + 1, 0, none⟩) 1 1] 45)).alloc (.cells #[.slice (some ⟨w.heap.size + 1 + 1 + 1 + 1 + 1, 0, none⟩) 1 1, .slice (some ⟨w.heap.size + 1 + 1 + 1 + 1 + 1 + 1 + 1, 0, none⟩) 1 1] 35)).alloc
  (.cells #[.slice (some ⟨w.heap.size + 1, 0, none⟩) 1 1, .slice (some ⟨w.heap.size + 1 + 1 + 1, 0, none⟩) 1 1, .slice (some ⟨w.heap.size + 1 + 1 + 1 + 1 + 1, 0, none⟩) 1 1, .slice (some ⟨w.heap.size + 1 + 1 + 1 + 1 + 1 + 1 + 1, 0, none⟩) 1 1] 35)
theorem aw_leaves (w : World) : LeavesAt (awW w) (some ⟨w.heap.size + 1 + 1 + 1 + 1 + 1 + 1 + 1 + 1 + 1, 0, none⟩) [lfA, lfB] := by
  have hA : LfAt (awW w) (some ⟨w.heap.size + 1, 0, none⟩) (some ⟨w.heap.size + 1 + 1 + 1, 0, none⟩) lfA := lf_one (d := w.heap.size + 1 + 1) (by simp only [heap_alloc_get, heap_alloc_size, if_true]; repeat (first | rfl | rw [if_pos (by omega)] | rw [if_neg (by omega)])) (by simp only [heap_alloc_get, heap_alloc_size, if_true]; repeat (first | rfl | rw [if_pos (by omega)] | rw [if_neg (by omega)])) (by simp only [heap_alloc_get, heap_alloc_size, if_true]; repeat (first | rfl | rw [if_pos (by omega)] | rw [if_neg (by omega)]))
  have hB : LfAt (awW w) (some ⟨w.heap.size + 1 + 1 + 1 + 1 + 1, 0, none⟩) (some ⟨w.heap.size + 1 + 1 + 1 + 1 + 1 + 1 + 1, 0, none⟩) lfB := lf_one (d := w.heap.size + 1 + 1 + 1 + 1 + 1 + 1) (by simp only [heap_alloc_get, heap_alloc_size, if_true]; repeat (first | rfl | rw [if_pos (by omega)] | rw [if_neg (by omega)])) (by simp only [heap_alloc_get, heap_alloc_size, if_true]; repeat (first | rfl | rw [if_pos (by omega)] | rw [if_neg (by omega)])) (by simp only [heap_alloc_get, heap_alloc_size, if_true]; repeat (first | rfl | rw [if_pos (by omega)] | rw [if_neg (by omega)]))
  have hR : (awW w).heap[w.heap.size + 1 + 1 + 1 + 1 + 1 + 1 + 1 + 1 + 1]? = some (.cells #[.slice (some ⟨w.heap.size + 1, 0, none⟩) 1 1, .slice (some ⟨w.heap.size + 1 + 1 + 1, 0, none⟩) 1 1, .slice (some ⟨w.heap.size + 1 + 1 + 1 + 1 + 1, 0, none⟩) 1 1, .slice (some ⟨w.heap.size + 1 + 1 + 1 + 1 + 1 + 1 + 1, 0, none⟩) 1 1] 35) := (by simp only [heap_alloc_get, heap_alloc_size, if_true]; repeat (first | rfl | rw [if_pos (by omega)] | rw [if_neg (by omega)]))
  intro i hi
  have hi2 : i = 0 ∨ i = 1 := by simp at hi; omega
  rcases hi2 with rfl | rfl
  · exact ⟨_, 0, _, 1, _, 1, rfl, cell_of_heap hR 0, cell_of_heap hR 1, hA⟩
  · exact ⟨_, 0, _, 1, _, 1, rfl, cell_of_heap hR 2, cell_of_heap hR 3, hB⟩
theorem aw_ok : LeavesOk [lfA, lfB] := by
  intro x hx
  have : x = lfA ∨ x = lfB := by simpa using hx
  rcases this with rfl | rfl
  · refine ⟨by decide, by decide, fun i hi => ?_⟩
    have : i = 0 := by simp [lfA] at hi; omega
    subst this
    simp [lfA, lfB]
  · refine ⟨by decide, by decide, fun i hi => ?_⟩
    have : i = 0 := by simp [lfB] at hi; omega
    subst this
    simp [lfA, lfB]
set_option maxHeartbeats 8000000 in
set_option maxRecDepth 100000 in
theorem awake9 (w : World) : Calls Try.prog 9 #[] w fun e w' => e = .returned (.bool true) ∧ Keeps Nil w w' := by
  have hS := Lib.hid (by have := sum15_good (w := awW w) 1 1 1 1 1 rfl rfl (cap := 2) (by decide) (by decide) (by decide) (by decide) (aw_leaves w) aw_ok (by decide); rw [sum_awake] at this; exact this)
  have hPl := Lib.hid (fun W => by have := place10 1 4 W (by decide); rw [show plF 1 4 = 2 by decide] at this; exact this)
  have hkw := Lib.hid (show Keeps Nil w (awW w) from ((((((((((Keeps.refl Nil w).alloc _).alloc _).alloc _).alloc _).alloc _).alloc _).alloc _).alloc _).alloc _).alloc _)
  go_enter Try.func9, Try.ntmps9
  go_wp2_with fail
  refine (hS.out).mono ?_
  rintro e w2 (⟨h, _⟩ | ⟨x, sg, bg, ds, hx, rfl, hO, hxl, hk, hg⟩)
  · cases h
  cases hx
  have hO' := Lib.hid hO
  have hk' := Lib.hid (hkw.out.trans hk)
  clear hO hk hg hxl
  go_wp2_with fail
  refine (hPl.out _).mono ?_
  rintro e w3 ⟨rfl, rfl⟩
  go_wp2_with fail
  have hkz : Keeps Nil w2 ((((w2.alloc (.cells #[.slice (some ⟨sg, 0, none⟩) 1 1, .slice (some ⟨bg, 0, none⟩) 1 1] 35)).alloc (.cells #[.int .u32 6, .int .i64 0, .int .u64 2] 44)).alloc (.cells #[.int .u8 3] 5)).alloc (.cells #[.slice (some ⟨w2.heap.size + 1 + 1, 0, none⟩) 1 1] 45)) := ((((Keeps.refl Nil w2).alloc _).alloc _).alloc _).alloc _
  have hC : LfAt ((((w2.alloc (.cells #[.slice (some ⟨sg, 0, none⟩) 1 1, .slice (some ⟨bg, 0, none⟩) 1 1] 35)).alloc (.cells #[.int .u32 6, .int .i64 0, .int .u64 2] 44)).alloc (.cells #[.int .u8 3] 5)).alloc (.cells #[.slice (some ⟨w2.heap.size + 1 + 1, 0, none⟩) 1 1] 45)) (some ⟨w2.heap.size + 1, 0, none⟩) (some ⟨w2.heap.size + 1 + 1 + 1, 0, none⟩) lfC := lf_one (d := w2.heap.size + 1 + 1) (by simp only [heap_alloc_get, heap_alloc_size, if_true]; repeat (first | rfl | rw [if_pos (by omega)] | rw [if_neg (by omega)])) (by simp only [heap_alloc_get, heap_alloc_size, if_true]; repeat (first | rfl | rw [if_pos (by omega)] | rw [if_neg (by omega)])) (by simp only [heap_alloc_get, heap_alloc_size, if_true]; repeat (first | rfl | rw [if_pos (by omega)] | rw [if_neg (by omega)]))
  refine (same16 (x := lfC) (hO'.out.nil hkz).at hC ⟨by decide, by decide, fun i hi => ?_⟩).mono ?_
  · have : i = 0 := by simp [lfC] at hi; omega
    subst this
    simp [lfC]
  rintro e w4 ⟨rfl, hk4⟩
  have hk4' := Lib.hid ((hk'.out.trans hkz).trans hk4)
  clear hk4 hkz hC
  go_wp2_with fail
  go_ret
  exact ⟨rfl, hk4'.out⟩
end Go.Proofs.Ytdgcbjkopmlegaa
