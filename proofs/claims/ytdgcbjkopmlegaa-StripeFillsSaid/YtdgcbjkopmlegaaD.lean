/- stripe: a leaf in memory of the call's own; noughts -/
import Derived.Test.YtdgcbjkopmlegaaC
import Derived.Deep.DeepCutAuto
import Derived.Laws.MakeOwn
namespace Go.Proofs.Ytdgcbjkopmlegaa
open Go.RowKit

attribute [local go_sem ↓] Go.wp_at_zero Go.wp_at_succ

def dcells (d : List Int) : List Value := d.map (Value.int .u8)
def dsl (S d : Nat) : Value := .slice (some ⟨d, 0, none⟩) S S
/-- A leaf in blocks of its own: slots at sg, slices at bg, sectors of S bytes at ds. -/
structure OwnLf (w : World) (S sg bg : Nat) (ds : List Nat) (x : Lf) : Prop where
  sl : w.heap[sg]? = some (.cells (recs slC x.sl).toArray 44)
  se : w.heap[bg]? = some (.cells (ds.map (dsl S)).toArray 45)
  da : ∀ (i d : Nat), ds[i]? = some d → ∃ r : List Int, x.se[i]? = some r ∧ r.length = S ∧ w.heap[d]? = some (.cells (dcells r).toArray 5)
  n1 : ds.length = x.sl.length
  n2 : x.se.length = x.sl.length
  nd : ds.Nodup
def lown (sg bg : Nat) (ds : List Nat) (k : Nat) : Prop := k = sg ∨ k = bg ∨ k ∈ ds
theorem OwnLf.keeps {T : Nat → Prop} {w w' : World} {S sg bg : Nat} {ds : List Nat} {x : Lf} (h : OwnLf w S sg bg ds x) (hk : Keeps T w w') (hn : ∀ k, lown sg bg ds k → ¬ T k) : OwnLf w' S sg bg ds x :=
  ⟨hk.heap h.sl (hn _ (.inl rfl)), hk.heap h.se (hn _ (.inr (.inl rfl))), fun i d hd => let ⟨r, h1, h2, h3⟩ := h.da i d hd; ⟨r, h1, h2, hk.heap h3 (hn _ (.inr (.inr (List.mem_of_getElem? hd))))⟩, h.n1, h.n2, h.nd⟩
theorem OwnLf.nil {w w' : World} {S sg bg : Nat} {ds : List Nat} {x : Lf} (h : OwnLf w S sg bg ds x) (hk : Keeps Nil w w') : OwnLf w' S sg bg ds x := h.keeps hk (fun _ _ h => h)
theorem OwnLf.lt {w : World} {S sg bg : Nat} {ds : List Nat} {x : Lf} (h : OwnLf w S sg bg ds x) {k : Nat} (hk : lown sg bg ds k) : k < w.heap.size := by
  rcases hk with rfl | rfl | hk
  · exact lt_of_heap h.sl
  · exact lt_of_heap h.se
  · obtain ⟨i, hi⟩ := List.mem_iff_getElem?.1 hk
    obtain ⟨r, _, _, h3⟩ := h.da i k hi
    exact lt_of_heap h3

def sl0 : Sl := ⟨0, 0, 0⟩
def zeroD (S : Nat) : List Int := List.replicate S 0
def zeroLf (S n : Nat) : Lf := ⟨List.replicate n sl0, List.replicate n (zeroD S)⟩
theorem made_slots (n : Nat) : madeCells #[.int .u32 0, .int .i64 0, .int .u64 0] (n * 3) = (recs slC (List.replicate n sl0)).toArray := by
  apply Array.toList_inj.1
  apply List.ext_getElem?
  intro j
  by_cases hj : j < n * 3
  · have h1 : (recs slC (List.replicate n sl0))[j / 3 * 3 + j % 3]? = (slC sl0)[j % 3]? := by
      have hr : j % 3 < 3 := Nat.mod_lt _ (by decide)
      obtain ⟨v, hv⟩ : ∃ v, (slC sl0)[j % 3]? = some v := ⟨_, List.getElem?_eq_getElem (by simp [slC]; omega)⟩
      rw [hv]
      exact recs_get slC_len hr (by rw [List.getElem?_replicate, if_pos (by omega)]) hv
    rw [show j / 3 * 3 + j % 3 = j by omega] at h1
    simp only [madeCells, Array.toList_map, Array.toList_range, List.getElem?_map, List.getElem?_range hj, Option.map_some]
    rw [h1]
    have hr : j % 3 = 0 ∨ j % 3 = 1 ∨ j % 3 = 2 := by omega
    rcases hr with h | h | h <;> simp [h, slC, sl0]
  · have h1 : (recs slC (List.replicate n sl0)).length = n * 3 := by rw [recs_len slC_len]; simp
    simp [madeCells, hj]
    omega

theorem info44 : (Try.prog.info? 44).map (fun i => (i.zero, i.size, i.bytes)) = some (some (.agg #[.int .u32 0, .int .i64 0, .int .u64 0]), 3, 24) := by kernel_rfl
theorem info45 : (Try.prog.info? 45).map (fun i => (i.zero, i.size, i.bytes)) = some (some (.slice none 0 0), 1, 24) := by kernel_rfl
theorem info5 : (Try.prog.info? 5).map (fun i => (i.zero, i.size, i.bytes)) = some (some (.int .u8 0), 1, 1) := by kernel_rfl

theorem make32 (n : Nat) (hn : n ≤ 1000000) (w : World) : (Instr.makeSlice 32 (.int .i64 (n : Int)) (.int .i64 (n : Int))).run Try.prog w = .ok (.slice (some ⟨w.heap.size, 0, none⟩) n n) (w.alloc (.cells (recs slC (List.replicate n sl0)).toArray 44)) := by
  obtain ⟨i44, hi, hz0, hz1, hz2⟩ := info_parts info44
  have h := run_make (P := Try.prog) w 32 44 i44 _ Try.underlying32 hi hz0 .i64 .i64 n n (by omega) (Int.le_refl _) (by rw [hz2]; omega) (by omega)
  rw [h]
  simp only [Int.toNat_natCast, hz1]
  rw [← made_slots]
  rfl
theorem make33 (n : Nat) (hn : n ≤ 1000000) (w : World) : (Instr.makeSlice 33 (.int .i64 (n : Int)) (.int .i64 (n : Int))).run Try.prog w = .ok (.slice (some ⟨w.heap.size, 0, none⟩) n n) (w.alloc (.cells (List.replicate n (.slice none 0 0)).toArray 45)) := by
  obtain ⟨i45, hi, hz0, hz1, hz2⟩ := info_parts info45
  exact run_make1 w 33 45 i45 (.slice none 0 0) 24 Try.underlying33 hi hz0 hz1 hz2 rfl .i64 .i64 n (by omega) (by omega)
theorem make45 (n : Nat) (hn : n ≤ 1000000) (w : World) : (Instr.makeSlice 45 (.int .i64 (n : Int)) (.int .i64 (n : Int))).run Try.prog w = .ok (.slice (some ⟨w.heap.size, 0, none⟩) n n) (w.alloc (.cells (dcells (zeroD n)).toArray 5)) := by
  obtain ⟨i5, hi, hz0, hz1, hz2⟩ := info_parts info5
  have := run_make1 w 45 5 i5 (.int .u8 0) 1 Try.underlying45 hi hz0 hz1 hz2 rfl .i64 .i64 n (by omega) (by omega)
  rw [this]
  simp [dcells, zeroD]

theorem heap_alloc_get (w : World) (o : Obj) (k : Nat) : (w.alloc o).heap[k]? = if k = w.heap.size then some o else w.heap[k]? := by
  show (w.heap.push o)[k]? = _
  rw [Array.getElem?_push]
theorem heap_alloc_size (w : World) (o : Obj) : (w.alloc o).heap.size = w.heap.size + 1 := by simp
theorem heap_drew (w : World) : w.drew.heap = w.heap := rfl
/-- what noughts has laid before its loop -/
def NoW (w wx : World) (L : Array Value) (n tb sg bg : Nat) : Prop :=
  wx.heap[w.heap.size]? = some (.cells L 27) ∧ wx.heap[tb]? = some (.cells #[.slice (some ⟨sg, 0, none⟩) n n, .slice (some ⟨bg, 0, none⟩) n n] 35) ∧ wx.heap[sg]? = some (.cells (recs slC (List.replicate n sl0)).toArray 44) ∧
    wx.heap[bg]? = some (.cells (Array.replicate n (Value.slice none 0 0)) 45) ∧ Keeps Nil w wx ∧ wx.heap[w.heap.size + 1]? = some (.cells #[.slice none 0 0, .slice none 0 0] 35) ∧ (w.heap.size + 1 < tb ∧ w.heap.size + 1 < sg ∧ w.heap.size + 1 < bg)

set_option maxHeartbeats 4000000 in
set_option maxRecDepth 100000 in
theorem noughts24 {w : World} (S n : Nat) (T : Int) (hS : S ≤ 1000000) (hn : n ≤ 1000000) :
    Calls Try.prog 24 #[.agg #[.int .i64 S, .int .i64 n, .int .i64 T]] w fun e w' => ∃ sg bg ds, e = .returned (.agg #[.slice (some ⟨sg, 0, none⟩) n n, .slice (some ⟨bg, 0, none⟩) n n]) ∧ OwnLf w' S sg bg ds (zeroLf S n) ∧ Keeps Nil w w' ∧ ∀ k, lown sg bg ds k → w.heap.size ≤ k := by
  have m32 := make32 n hn
  have m33 := make33 n hn
  have m45 := make45 S hS
  go_enter Try.func24, Try.ntmps24
  go_upto_region 1 with (fail)
  go_cut [3] (fun v wx => ∃ tb sg bg : Nat, v = .pointer (some ⟨tb, 0, none⟩) ∧ NoW w wx #[.int .i64 S, .int .i64 n, .int .i64 T] n tb sg bg)
  case first =>
    have l0 : ((w.alloc (.cells #[.int .i64 S, .int .i64 n, .int .i64 T] 27)).alloc (.cells #[.slice none 0 0, .slice none 0 0] 35)).cell? ⟨w.heap.size, 1, none⟩ = some (.int .i64 n) := by simp [go_sem]
    go_region_held3 (fun W => W.cell? ⟨w.heap.size, 1, none⟩ = some (.int .i64 n)) (first | exact l0 | (go_keep; done) | (simp [go_sem]; done)) (fail)
    all_goals
      go_wp2_with fail
      go_meet
    all_goals
      first
        | (refine ⟨_, w.heap.size + 1 + 1, w.heap.size + 1 + 1 + 1, rfl, ?_, ?_, ?_, ?_, ?_, ?_, ?_, ?_, ?_⟩ <;> (first | ((simp only [heap_drew, heap_alloc_get, heap_alloc_size]; repeat (first | rfl | rw [if_pos (by omega)] | rw [if_neg (by omega)])); done) | omega | exact (((((((Keeps.refl Nil w).alloc _).alloc _).alloc _).alloc _).alloc _).drew)))
        | (refine ⟨_, w.heap.size + 1 + 1, w.heap.size + 1 + 1 + 1 + 1, rfl, ?_, ?_, ?_, ?_, ?_, ?_, ?_, ?_, ?_⟩ <;> (first | ((simp only [heap_drew, heap_alloc_get, heap_alloc_size]; repeat (first | rfl | rw [if_pos (by omega)] | rw [if_neg (by omega)])); done) | omega | exact (((((((Keeps.refl Nil w).alloc _).alloc _).alloc _).alloc _).alloc _).drew)))
        | (refine ⟨_, w.heap.size + 1 + 1 + 1, w.heap.size + 1 + 1, rfl, ?_, ?_, ?_, ?_, ?_, ?_, ?_, ?_, ?_⟩ <;> (first | ((simp only [heap_drew, heap_alloc_get, heap_alloc_size]; repeat (first | rfl | rw [if_pos (by omega)] | rw [if_neg (by omega)])); done) | omega | exact (((((((Keeps.refl Nil w).alloc _).alloc _).alloc _).alloc _).alloc _).drew)))
        | (refine ⟨_, w.heap.size + 1 + 1 + 1, w.heap.size + 1 + 1 + 1 + 1, rfl, ?_, ?_, ?_, ?_, ?_, ?_, ?_, ?_, ?_⟩ <;> (first | ((simp only [heap_drew, heap_alloc_get, heap_alloc_size]; repeat (first | rfl | rw [if_pos (by omega)] | rw [if_neg (by omega)])); done) | omega | exact (((((((Keeps.refl Nil w).alloc _).alloc _).alloc _).alloc _).alloc _).drew)))
        | (refine ⟨_, w.heap.size + 1 + 1 + 1 + 1, w.heap.size + 1 + 1, rfl, ?_, ?_, ?_, ?_, ?_, ?_, ?_, ?_, ?_⟩ <;> (first | ((simp only [heap_drew, heap_alloc_get, heap_alloc_size]; repeat (first | rfl | rw [if_pos (by omega)] | rw [if_neg (by omega)])); done) | omega | exact (((((((Keeps.refl Nil w).alloc _).alloc _).alloc _).alloc _).alloc _).drew)))
        | (refine ⟨_, w.heap.size + 1 + 1 + 1 + 1, w.heap.size + 1 + 1 + 1, rfl, ?_, ?_, ?_, ?_, ?_, ?_, ?_, ?_, ?_⟩ <;> (first | ((simp only [heap_drew, heap_alloc_get, heap_alloc_size]; repeat (first | rfl | rw [if_pos (by omega)] | rw [if_neg (by omega)])); done) | omega | exact (((((((Keeps.refl Nil w).alloc _).alloc _).alloc _).alloc _).alloc _).drew)))
  case rest =>
    obtain ⟨tb, sg, bg, rfl, hN⟩ := hcut
    obtain ⟨x0, x1, x2, x3, hk, x4, hg1, hg2, hg3⟩ := hN
    have u0 := cell_of_heap x0 0
    have v1 := cell_of_heap x1 1
    simp at u0 v1
    have htl := lt_of_heap x1
    have hbl := lt_of_heap x3
    have hzl := lt_of_heap x4
    have hTB : tb ≠ bg := by rintro rfl; rw [x1] at x3; injection x3 with h; injection h with _ h2 _; exact absurd h2 (by decide)
    have hSB : sg ≠ bg := by rintro rfl; rw [x2] at x3; injection x3 with h; injection h with _ h2 _; exact absurd h2 (by decide)
    have hTB' := Lib.hid hTB
    have hSB' := Lib.hid hSB
    have x0' := Lib.hid x0
    have x1' := Lib.hid x1
    have x2' := Lib.hid x2
    have x3' := Lib.hid x3
    have x4' := Lib.hid x4
    have hk' := Lib.hid hk
    clear x0 x1 x2 x3 x4 hk hTB hSB
    go_wp2_with fail
    go_loopw [4, 15] (fun _ c wx => ∃ (p : Nat) (ds : List Nat), p ≤ n ∧ c = .int .i64 p ∧ ds.length = p ∧ Keeps (· = bg) wc wx ∧ wx.heap[bg]? = some (.cells (ds.map (dsl S) ++ List.replicate (n - p) (Value.slice none 0 0)).toArray 45) ∧ (∀ d ∈ ds, wc.heap.size ≤ d ∧ wx.heap[d]? = some (.cells (dcells (zeroD S)).toArray 5)) ∧ ds.Nodup) (fun _ c _ => n - (intOf c).toNat)
    case atStart => exact ⟨0, [], Nat.zero_le _, rfl, rfl, Keeps.refl _ _, by simpa using x3'.out, (fun d hd => by cases hd), List.nodup_nil⟩
    case round =>
      obtain ⟨p, ds, hp, rfl, hdl, hkx, hbx, hds, hnd⟩ := hrel
      have hkx' := Lib.hid hkx
      have hds' := Lib.hid hds
      have hnd' := Lib.hid hnd
      have hbx' := Lib.hid hbx
      have hdl' := Lib.hid hdl
      have a1 := hkx.cell v1 hTB'.out
      have a0 := hkx.cell u0 (by omega)
      by_cases hlt : p < n
      · have a2 := cell_of_heap hbx p
        have a2' : wr.cell? ⟨bg, p, none⟩ = some (.slice none 0 0) := by
          rw [a2, List.getElem?_toArray, List.getElem?_append_right (by simp [hdl]), List.getElem?_replicate, if_pos (by simp [hdl]; omega)]
        have f2 := frozen_of_heap hbx p
        have hbr := lt_of_heap hbx
        have hwr : tb < wr.heap.size := Nat.lt_of_lt_of_le htl hkx.size
        have hwr2 : w.heap.size < wr.heap.size := by have := hkx.size; omega
        clear hkx hds hnd hbx hdl a2
        have kS : Keeps (· = bg) wr ((wr.setCell ⟨bg, p, none⟩ (.slice (some ⟨wr.heap.size, 0, none⟩) S S)).alloc (.cells (dcells (zeroD S)).toArray 5)).drew := (((Keeps.refl (· = bg) wr).setCell (.inl rfl) _).alloc _).drew
        have t1 := kS.cell a1 hTB'.out
        have t0 := kS.cell a0 (by omega)
        clear kS
        go_wp2_with fail
        go_region_held3 (fun W => W.cell? ⟨tb, 1, none⟩ = some (.slice (some ⟨bg, 0, none⟩) n n) ∧ W.cell? ⟨w.heap.size, 0, none⟩ = some (.int .i64 S)) (first | exact ⟨a1, a0⟩ | exact ⟨t1, t0⟩ | (go_keep; done)) (fail)
        go_wp2_with fail
        go_roundw
        case rel =>
          have hb := heap_setCell_same hbx'.out p (.slice (some ⟨wr.heap.size, 0, none⟩) S S)
          refine ⟨p + 1, ds ++ [wr.heap.size], by omega, by go_num, by simp [hdl'.out], (((hkx'.out.setCell (.inl rfl) _).alloc _).drew), ?_, ?_, ?_⟩
          · have hb2 := heap_alloc_old (o' := .cells (dcells (zeroD S)).toArray 5) hb
            refine hb2.trans ?_
            congr 2
            apply Array.toList_inj.1
            rw [Array.toList_setIfInBounds]
            simp only [List.map_append, List.map_cons, List.map_nil, List.append_assoc]
            rw [List.set_append_right _ _ (by simp [hdl'.out]), show n - p = (n - (p + 1)) + 1 by omega, List.replicate_succ]
            simp [hdl'.out, dsl]
          · intro d hd
            rcases List.mem_append.1 hd with hd | hd
            · obtain ⟨h1, h2⟩ := hds'.out d hd
              refine ⟨h1, heap_alloc_old (heap_setCell_other (fun e => ?_) |>.trans h2)⟩
              omega
            · simp at hd
              subst hd
              refine ⟨hkx'.out.size, ?_⟩
              have : (wr.setCell ⟨bg, p, none⟩ (.slice (some ⟨wr.heap.size, 0, none⟩) S S)).heap.size = wr.heap.size := by simp [World.setCell]
              have h3 := heap_alloc_new (wr.setCell ⟨bg, p, none⟩ (.slice (some ⟨wr.heap.size, 0, none⟩) S S)) (.cells (dcells (zeroD S)).toArray 5)
              rw [this] at h3
              exact h3
          · refine List.nodup_append.2 ⟨hnd'.out, by simp, fun a ha b hb e => ?_⟩
            simp at hb
            subst e
            have := lt_of_heap (hds'.out a ha).2
            omega
        case measure => simp [intOf]; omega
      · obtain rfl : p = n := by omega
        have v0 := hkx.cell (cell_of_heap x1'.out 0) hTB'.out
        simp at v0
        have r1 := hkx.heap x4'.out (by omega)
        have q0 := cell_of_heap r1 0
        have q1 := cell_of_heap r1 1
        have q2 := frozen_of_heap r1 0
        have q3 := frozen_of_heap r1 1
        simp at q0 q1
        have hzr := lt_of_heap r1
        rw [Nat.sub_self, List.replicate_zero, List.append_nil] at hbx
        have hbx2 := Lib.hid hbx
        clear hkx hds hnd hbx hdl r1
        go_wp2_with fail
        refine bodyPost_ret (v := .agg #[.slice (some ⟨sg, 0, none⟩) p p, .slice (some ⟨bg, 0, none⟩) p p]) (by simp [results, Try.results24, go_sem, q0, q1]) rfl ?_
        have kE : Keeps (· = w.heap.size + 1) wr ((wr.setCell ⟨w.heap.size + 1, 0, none⟩ (.slice (some ⟨sg, 0, none⟩) p p)).setCell ⟨w.heap.size + 1, 1, none⟩ (.slice (some ⟨bg, 0, none⟩) p p)) := ((Keeps.refl (· = w.heap.size + 1) wr).setCell (.inl rfl) _).setCell (.inl rfl) _
        have hsz := hkx'.out.size
        have hsz0 := hk'.out.size
        refine ⟨sg, bg, ds, rfl, ⟨kE.heap (hkx'.out.heap x2'.out hSB'.out) (by omega), kE.heap hbx2.out (by omega), ?_, by simp [zeroLf, hdl'.out], by simp [zeroLf], hnd'.out⟩, (hk'.out.trans' hkx'.out (fun j hj => .inr (by omega))).trans' kE (fun j hj => .inr (by omega)), ?_⟩
        · intro i d hd
          have hi : i < ds.length := (List.getElem?_eq_some_iff.1 hd).1
          rw [hdl'.out] at hi
          obtain ⟨h1, h2⟩ := hds'.out d (List.mem_of_getElem? hd)
          refine ⟨zeroD S, by show (List.replicate p (zeroD S))[i]? = some (zeroD S); rw [List.getElem?_replicate, if_pos hi], by simp [zeroD], kE.heap h2 (show ¬ d = w.heap.size + 1 by omega)⟩
        · rintro k (rfl | rfl | hk)
          · omega
          · omega
          · have := (hds'.out k hk).1; omega
end Go.Proofs.Ytdgcbjkopmlegaa
