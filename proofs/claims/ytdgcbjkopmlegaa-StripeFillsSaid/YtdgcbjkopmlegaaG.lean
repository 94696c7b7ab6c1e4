/- stripe: Sum: leaves together -/
import Derived.Test.YtdgcbjkopmlegaaF
namespace Go.Proofs.Ytdgcbjkopmlegaa
open Go.RowKit

attribute [local go_sem ↓] Go.wp_at_zero Go.wp_at_succ

/-- The slice at a reads as the leaves Ls. -/
def LeavesAt (w : World) (a : Option Addr) (Ls : List Lf) : Prop :=
  ∀ i (_ : i < Ls.length), ∃ b off sa sc ba bc, a = some ⟨b, off, none⟩ ∧ w.cell? ⟨b, off + i * 2, none⟩ = some (.slice sa Ls[i].sl.length sc) ∧ w.cell? ⟨b, off + i * 2 + 1, none⟩ = some (.slice ba Ls[i].se.length bc) ∧ LfAt w sa ba Ls[i]
theorem LeavesAt.nil {w w' : World} {a : Option Addr} {Ls : List Lf} (h : LeavesAt w a Ls) (hk : Keeps Nil w w') : LeavesAt w' a Ls := fun i hi =>
  let ⟨b, off, sa, sc, ba, bc, e, h1, h2, h3⟩ := h i hi; ⟨b, off, sa, sc, ba, bc, e, hk.cell h1 (fun h => h), hk.cell h2 (fun h => h), h3.nil hk⟩
def LeavesOk (Ls : List Lf) : Prop := ∀ x ∈ Ls, LfOk x

def goodLay (S N : Int) : Bool := decide (1 ≤ S ∧ S ≤ 256 ∧ 1 ≤ N ∧ N ≤ 8)
def sumL (S n : Nat) (Ls : List Lf) : Lf := Ls.foldl joinLf (zeroLf S n)
def sumR (S N : Int) (Ls : List Lf) : Option Lf := if goodLay S N = true ∧ Ls.all (mayB S N) = true then some (sumL S.toNat N.toNat Ls) else none
def sumIf (S n : Nat) (Ls : List Lf) : Option Lf := if Ls.all (mayB S n) = true then some (sumL S n Ls) else none
theorem sumIf_yes {S n : Nat} {Ls : List Lf} (h : Ls.all (mayB S n) = true) : sumIf S n Ls = some (sumL S n Ls) := if_pos h
theorem sumIf_no {S n : Nat} {Ls : List Lf} (h : Ls.all (mayB S n) = false) : sumIf S n Ls = none := if_neg (by rw [h]; decide)
/-- what a call answers that makes a leaf, or none -/
def SumOut (w : World) (S n : Nat) (r : Option Lf) (e : Ending) (w' : World) : Prop :=
  (r = none ∧ e = .returned (.tuple #[.agg #[.slice none 0 0, .slice none 0 0], .int .i64 1]) ∧ Keeps Nil w w') ∨
  ∃ x sg bg ds, r = some x ∧ e = .returned (.tuple #[.agg #[.slice (some ⟨sg, 0, none⟩) n n, .slice (some ⟨bg, 0, none⟩) n n], .int .i64 0]) ∧ OwnLf w' S sg bg ds x ∧ x.sl.length = n ∧ Keeps Nil w w' ∧ ∀ k, lown sg bg ds k → w.heap.size ≤ k

theorem joinLf_len (y x : Lf) : (joinLf y x).sl.length = y.sl.length ∧ (joinLf y x).se.length = y.se.length := ⟨zipTo_len _ _ _, zipTo_len _ _ _⟩
theorem sumL_len (S n : Nat) : ∀ (Ls : List Lf) (y : Lf), (Ls.foldl joinLf y).sl.length = y.sl.length
  | [], _ => rfl
  | x :: r, y => by rw [List.foldl_cons, sumL_len S n r, (joinLf_len y x).1]
theorem sumL_slots (S n : Nat) (Ls : List Lf) : (sumL S n Ls).sl.length = n := by unfold sumL; rw [sumL_len S n]; simp [zeroLf]
theorem sumL_step {S n q : Nat} {Ls : List Lf} (h : q < Ls.length) : joinLf (sumL S n (Ls.take q)) Ls[q] = sumL S n (Ls.take (q + 1)) := by
  unfold sumL
  rw [List.take_succ_eq_append_getElem h, List.foldl_append]
  rfl
theorem mayB_parts {S N : Int} {x : Lf} (h : mayB S N x = true) : (x.sl.length : Int) = N ∧ (x.se.length : Int) = N ∧ (∀ s ∈ x.sl, slBad s = false) ∧ ∀ d ∈ x.se, secBad S d = false := by
  unfold mayB at h
  simp only [Bool.and_eq_true, decide_eq_true_eq, Bool.not_eq_true'] at h
  obtain ⟨h1, h2, h3, h4⟩ := h
  refine ⟨h1, h2, fun s hs => ?_, fun d hd => ?_⟩
  · cases hb : slBad s
    · rfl
    · exact absurd (List.any_eq_true.2 ⟨s, hs, hb⟩) (by rw [h3]; decide)
  · cases hb : secBad S d
    · rfl
    · exact absurd (List.any_eq_true.2 ⟨d, hd, hb⟩) (by rw [h4]; decide)
theorem mayB_sec {S : Nat} {N : Int} {x : Lf} (h : mayB S N x = true) : ∀ i (_ : i < x.se.length), x.se[i].length ≤ S := by
  intro i hi
  have := (mayB_parts h).2.2.2 _ (List.getElem_mem hi)
  unfold secBad at this
  simp only [decide_eq_false_iff_not] at this
  omega
theorem all_take {α : Type} (p : α → Bool) {L : List α} {q : Nat} (h : (L.take q).all p = true) (hq : q < L.length) (hp : p L[q] = true) : (L.take (q + 1)).all p = true := by
  rw [List.take_succ_eq_append_getElem hq, List.all_append, h]
  simp [hp]
theorem all_false {α : Type} (p : α → Bool) {L : List α} {q : Nat} (hq : q < L.length) (hp : p L[q] = false) : L.all p = false := by
  cases h : L.all p
  · rfl
  · have := List.all_eq_true.1 h _ (List.getElem_mem hq)
    rw [hp] at this; cases this

set_option maxHeartbeats 4000000 in
set_option maxRecDepth 100000 in
theorem sum15_bad {w : World} (S N T : Int) (a : Option Addr) (len cap : Nat) (h : goodLay S N = false) :
    Calls Try.prog 15 #[.agg #[.int .i64 S, .int .i64 N, .int .i64 T], .slice a len cap] w fun e w' => e = .returned (.tuple #[.agg #[.slice none 0 0, .slice none 0 0], .int .i64 1]) ∧ Keeps Nil w w' := by
  have hg : ¬ (1 ≤ S ∧ S ≤ 256 ∧ 1 ≤ N ∧ N ≤ 8) := by simpa [goodLay] using h
  clear h
  by_cases h1 : S < 1
  · have d1 := decide_eq_true h1
    clear hg
    go_enter Try.func15, Try.ntmps15
    go_wp2_with fail
    exact bodyPost_ret (v := .tuple #[.agg #[.slice none 0 0, .slice none 0 0], .int .i64 1]) (by simp [results, Try.results15, go_sem]) rfl ⟨rfl, by first | exact ((Keeps.refl Nil w).alloc _).alloc _ | exact ((((Keeps.refl Nil w).alloc _).alloc _).setCell (.inr (by simp)) _).setCell (.inr (by simp)) _⟩
  · have d1 := decide_eq_false h1
    by_cases h2 : 256 < S
    · have d2 := decide_eq_true h2
      clear hg
      go_enter Try.func15, Try.ntmps15
      go_wp2_with fail
      exact bodyPost_ret (v := .tuple #[.agg #[.slice none 0 0, .slice none 0 0], .int .i64 1]) (by simp [results, Try.results15, go_sem]) rfl ⟨rfl, ((Keeps.refl Nil w).alloc _).alloc _⟩
    · have d2 := decide_eq_false h2
      by_cases h3 : N < 1
      · have d3 := decide_eq_true h3
        clear hg
        go_enter Try.func15, Try.ntmps15
        go_wp2_with fail
        exact bodyPost_ret (v := .tuple #[.agg #[.slice none 0 0, .slice none 0 0], .int .i64 1]) (by simp [results, Try.results15, go_sem]) rfl ⟨rfl, ((Keeps.refl Nil w).alloc _).alloc _⟩
      · have d3 := decide_eq_false h3
        have h4 : 8 < N := by omega
        have d4 := decide_eq_true h4
        clear hg
        go_enter Try.func15, Try.ntmps15
        go_wp2_with fail
        exact bodyPost_ret (v := .tuple #[.agg #[.slice none 0 0, .slice none 0 0], .int .i64 1]) (by simp [results, Try.results15, go_sem]) rfl ⟨rfl, ((Keeps.refl Nil w).alloc _).alloc _⟩

set_option maxHeartbeats 8000000 in
set_option maxRecDepth 100000 in
theorem sum15_good {w : World} (S0 N0 : Int) (S n : Nat) (T : Int) (hS0 : S0 = S) (hN0 : N0 = n) {a : Option Addr} {cap : Nat} {Ls : List Lf} (hS1 : 1 ≤ S) (hS2 : S ≤ 256) (hn1 : 1 ≤ n) (hn2 : n ≤ 8) (hL : LeavesAt w a Ls) (hok : LeavesOk Ls) (hl : Ls.length ≤ 9223372036854775807) :
    Calls Try.prog 15 #[.agg #[.int .i64 S0, .int .i64 N0, .int .i64 T], .slice a Ls.length cap] w (SumOut w S n (sumIf S n Ls)) := by
  have hL' := Lib.hid hL
  have hok' := Lib.hid hok
  have hN := Lib.hid (show ∀ W, Calls Try.prog 24 #[.agg #[.int .i64 S0, .int .i64 N0, .int .i64 T]] W fun e w' => ∃ sg bg ds, e = .returned (.agg #[.slice (some ⟨sg, 0, none⟩) n n, .slice (some ⟨bg, 0, none⟩) n n]) ∧ OwnLf w' S sg bg ds (zeroLf S n) ∧ Keeps Nil W w' ∧ ∀ k, lown sg bg ds k → W.heap.size ≤ k from fun W => by rw [hS0, hN0]; exact noughts24 (w := W) S n T (by omega) (by omega))
  clear hL hok
  have hS0' := Lib.hid hS0
  have hN0' := Lib.hid hN0
  have d1 : decide (S0 < 1) = false := decide_eq_false (by omega)
  have d2 : decide (256 < S0) = false := decide_eq_false (by omega)
  have d3 : decide (N0 < 1) = false := decide_eq_false (by omega)
  have d4 : decide (8 < N0) = false := decide_eq_false (by omega)
  clear hS0 hN0
  go_enter Try.func15, Try.ntmps15
  go_wp2_with fail
  refine (hN.out _).mono ?_
  rintro e w2 ⟨sg, bg, ds, rfl, hO, hK, hG⟩
  have hA1 : Keeps Nil w ((w.alloc (.cells #[.int .i64 S0, .int .i64 N0, .int .i64 T] 27)).alloc (.cells #[.slice none 0 0, .slice none 0 0] 35)) := ((Keeps.refl Nil w).alloc _).alloc _
  have hx1 := hK.heap (heap_alloc_old (o' := .cells #[.slice none 0 0, .slice none 0 0] 35) (heap_alloc_new w (.cells #[.int .i64 S0, .int .i64 N0, .int .i64 T] 27))) (fun h => h)
  have hx2 := hK.heap (heap_alloc_new (w.alloc (.cells #[.int .i64 S0, .int .i64 N0, .int .i64 T] 27)) (.cells #[.slice none 0 0, .slice none 0 0] 35)) (fun h => h)
  rw [heap_alloc_size] at hx2
  have hG2 := Lib.hid (show ∀ k, lown sg bg ds k → w.heap.size + 2 ≤ k ∧ k < w2.heap.size from fun k hk => ⟨by have := hG k hk; simp at this; omega, hO.lt hk⟩)
  have hO' := Lib.hid hO
  have hK' := Lib.hid (hA1.trans hK)
  have hx1' := Lib.hid hx1
  have hx2' := Lib.hid hx2
  have hz2 : w.heap.size + 2 ≤ w2.heap.size := by have := hK.size; simp at this; omega
  clear hO hK hA1 hx1 hx2 hG
  go_wp2_with fail
  obtain ⟨ob, hob⟩ : ∃ ob, w2.heap.size = ob := ⟨_, rfl⟩
  rw [hob]
  have hk3 : Keeps Nil w2 (w2.alloc (.cells #[.slice (some ⟨sg, 0, none⟩) n n, .slice (some ⟨bg, 0, none⟩) n n] 35)) := (Keeps.refl Nil w2).alloc _
  have hX3 := Lib.hid (heap_alloc_new w2 (.cells #[.slice (some ⟨sg, 0, none⟩) n n, .slice (some ⟨bg, 0, none⟩) n n] 35))
  rw [hob] at hX3
  obtain ⟨w3, hw3⟩ : ∃ w3, w2.alloc (.cells #[.slice (some ⟨sg, 0, none⟩) n n, .slice (some ⟨bg, 0, none⟩) n n] 35) = w3 := ⟨_, rfl⟩
  rw [hw3] at hk3 hX3 ⊢
  have hS3 := Lib.hid (And.intro (hO'.out.nil hk3) (And.intro (hK'.out.trans hk3) (And.intro (hk3.heap hx1'.out (fun h => h)) (hk3.heap hx2'.out (fun h => h)))))
  clear hw3 hk3
  go_loopw [8, 32] (fun _ c wx => ∃ q : Nat, q ≤ Ls.length ∧ c = .int .i64 q ∧ OwnLf wx S sg bg ds (sumL S n (Ls.take q)) ∧ Hid ((Ls.take q).all (mayB S n) = true) ∧ Keeps Nil w wx ∧ wx.heap[w.heap.size]? = some (.cells #[.int .i64 S0, .int .i64 N0, .int .i64 T] 27) ∧ wx.heap[w.heap.size + 1]? = some (.cells #[.slice none 0 0, .slice none 0 0] 35) ∧ wx.heap[ob]? = some (.cells #[.slice (some ⟨sg, 0, none⟩) n n, .slice (some ⟨bg, 0, none⟩) n n] 35)) (fun _ c _ => Ls.length - (intOf c).toNat)
  case atStart => exact ⟨0, Nat.zero_le _, rfl, by rw [List.take_zero]; exact hS3.out.1, rfl, hS3.out.2.1, hS3.out.2.2.1, hS3.out.2.2.2, hX3.out⟩
  case round =>
    obtain ⟨q, hq, rfl, hO, hall, hK, h1, h2, h3⟩ := hrel
    have hO3 := Lib.hid hO
    have hK3 := Lib.hid hK
    have h1' := Lib.hid h1
    have h2' := Lib.hid h2
    have h3' := Lib.hid h3
    have l0 := cell_of_heap h1 0
    have l1 := cell_of_heap h1 1
    have l2 := cell_of_heap h1 2
    have r0 := cell_of_heap h2 0
    have r1 := cell_of_heap h2 1
    have o0 := cell_of_heap h3 0
    have o1 := cell_of_heap h3 1
    simp at l0 l1 l2 r0 r1 o0 o1
    have fr0 := frozen_of_heap h2 0
    have fr1 := frozen_of_heap h2 1
    have hwl := lt_of_heap h1
    have hwl2 := lt_of_heap h2
    have hwl3 := lt_of_heap h3
    by_cases hlt : q < Ls.length
    · obtain ⟨b, off, sa, sc, ba, bc, rfl, hc0, hc1, hLf⟩ := hL'.out q hlt
      have c0 := hK.cell hc0 (fun h => h)
      have c1 := hK.cell hc1 (fun h => h)
      have hxo := hok'.out _ (List.getElem_mem hlt)
      have hstep := Lib.hid (sumL_step (S := S) (n := n) hlt)
      have hat := Lib.hid (fun h => all_take (mayB S n) (q := q) hall.out hlt h)
      have haf := Lib.hid (fun h => all_false (mayB S n) (q := q) hlt h)
      obtain ⟨x, hx⟩ : ∃ x, Ls[q] = x := ⟨_, rfl⟩
      rw [hx] at c0 c1 hLf hxo hstep hat haf
      have hM := Lib.hid (show ∀ W, Keeps Nil w W → Calls Try.prog 25 #[.agg #[.int .i64 S0, .int .i64 N0, .int .i64 T], .agg #[.slice sa x.sl.length sc, .slice ba x.se.length bc]] W fun e w' => e = .returned (.bool (mayB S n x)) ∧ Keeps Nil W w' from fun W hW => by rw [hS0'.out, hN0'.out]; exact may25 S n T (hLf.nil hW) hxo)
      have hLf' := Lib.hid hLf
      obtain ⟨n1, hn1'⟩ : ∃ n1, x.sl.length = n1 := ⟨_, rfl⟩
      obtain ⟨n2, hn2'⟩ : ∃ n2, x.se.length = n2 := ⟨_, rfl⟩
      rw [hn1'] at c0 hM
      rw [hn2'] at c1 hM
      have hn1h := Lib.hid hn1'
      have hn2h := Lib.hid hn2'
      clear hO hK h1 h2 h3 hc0 hc1 hLf hx hn1' hn2' hxo
      cases hmx : mayB S n x
      · rw [hmx] at hM
        have hfin := Lib.hid (haf.out hmx)
        clear hmx
        go_wp2_with fail
        refine (hM.out _ (by exact hK3.out.alloc _)).mono ?_
        rintro e w5 ⟨rfl, hk5⟩
        have v0 := hk5.cell (b := w.heap.size + 1) (o := 0) (v := .slice none 0 0) (by simp [go_sem, r0, hwl2]) (fun h => h)
        have v1 := hk5.cell (b := w.heap.size + 1) (o := 1) (v := .slice none 0 0) (by simp [go_sem, r1, hwl2]) (fun h => h)
        have vf := hk5.heap (heap_alloc_old (o' := .cells #[.slice sa n1 sc, .slice ba n2 bc] 35) h2'.out) (fun h => h)
        have vf0 := frozen_of_heap vf 0
        have vf1 := frozen_of_heap vf 1
        have vl := lt_of_heap vf
        have hk5' := Lib.hid hk5
        clear hk5 vf r0 r1 fr0 fr1
        go_wp2_with fail
        refine bodyPost_ret (v := .tuple #[.agg #[.slice none 0 0, .slice none 0 0], .int .i64 1]) (by simp [results, Try.results15, go_sem, v0, v1]) rfl ?_
        left
        refine ⟨sumIf_no hfin.out, rfl, ?_⟩
        exact (((hK3.out.alloc _).trans hk5'.out).setCell (.inr (by simp)) _).setCell (.inr (by simp)) _
      · rw [hmx] at hM
        have hat2 := Lib.hid (hat.out hmx)
        have hmp := Lib.hid (mayB_parts hmx)
        have hms := Lib.hid (mayB_sec hmx)
        obtain rfl : n = n1 := by have := hmp.out.1; have := hn1h.out; omega
        obtain rfl : n = n2 := by have := hmp.out.2.1; have := hn2h.out; omega
        clear hmx
        go_wp2_with fail
        refine (hM.out _ (by exact hK3.out.alloc _)).mono ?_
        rintro e w5 ⟨rfl, hk5⟩
        have kA5 : Keeps Nil wr w5 := ((Keeps.refl Nil wr).alloc _).trans hk5
        have x0 := hk5.cell (b := wr.heap.size) (o := 0) (v := .slice sa n sc) (by simp [go_sem]) (fun h => h)
        have x1 := hk5.cell (b := wr.heap.size) (o := 1) (v := .slice ba n bc) (by simp [go_sem]) (fun h => h)
        have p0 := kA5.cell o0 (fun h => h)
        have p1 := kA5.cell o1 (fun h => h)
        have hO5 := hO3.out.nil kA5
        have hob2 : ¬ lown sg bg ds ob := fun h => by have := (hG2.out ob h).2; omega
        have hJ := Lib.hid (join26 (fo := 0) (wb := w) p0 p1 hO5 (sumL_slots S n _) hLf'.out hn1h.out hn2h.out hms.out (hK3.out.trans kA5) (fun k hk => by have := (hG2.out k hk).1; omega) hob2 (by omega) (by omega) (sc := sc) (bc := bc))
        have f1 := kA5.heap h1'.out (fun h => h)
        have f2 := kA5.heap h2'.out (fun h => h)
        have f3 := kA5.heap h3'.out (fun h => h)
        have f1' := Lib.hid f1
        have f2' := Lib.hid f2
        have f3' := Lib.hid f3
        have kA5' := Lib.hid kA5
        clear hk5 kA5 p0 p1 hO5 hob2 f1 f2 f3 hM
        go_wp2_with fail
        refine (hJ.out).mono ?_
        rintro e w6 ⟨rfl, hO6, hK6⟩
        have hO6' := Lib.hid hO6
        have hK6' := Lib.hid hK6
        clear hO6 hK6 hJ x0 x1
        go_wp2_with fail
        go_roundw
        case rel =>
          have hn' : ∀ k, w.heap.size + 2 > k ∨ k ≥ w2.heap.size → ¬ lown sg bg ds k := fun k hk h => by have := hG2.out k h; omega
          refine ⟨q + 1, by omega, by go_num, by rw [← hstep.out]; exact hO6'.out, hat2.out, (hK3.out.trans kA5'.out).trans' hK6'.out (fun k hk => .inr (by have := (hG2.out k hk).1; omega)), hK6'.out.heap f1'.out (hn' _ (.inl (by omega))), hK6'.out.heap f2'.out (hn' _ (.inl (by omega))), hK6'.out.heap f3'.out (hn' _ (.inr (by omega)))⟩
        case measure => simp [intOf]; omega
    · obtain rfl : q = Ls.length := by omega
      have hall2 := Lib.hid (show Ls.all (mayB S n) = true by have := hall.out; rwa [List.take_of_length_le (Nat.le_refl _)] at this)
      have hOf := Lib.hid (show OwnLf wr S sg bg ds (sumL S n Ls) by have := hO; rwa [List.take_of_length_le (Nat.le_refl _)] at this)
      clear hO hK h1 h2 h3 hall
      go_wp2_with fail
      refine bodyPost_ret (v := .tuple #[.agg #[.slice (some ⟨sg, 0, none⟩) n n, .slice (some ⟨bg, 0, none⟩) n n], .int .i64 0]) (by simp [results, Try.results15, go_sem, r0, r1]) rfl ?_
      right
      have kE : Keeps (· = w.heap.size + 1) wr ((wr.setCell ⟨w.heap.size + 1, 0, none⟩ (.slice (some ⟨sg, 0, none⟩) n n)).setCell ⟨w.heap.size + 1, 1, none⟩ (.slice (some ⟨bg, 0, none⟩) n n)) := ((Keeps.refl (· = w.heap.size + 1) wr).setCell (.inl rfl) _).setCell (.inl rfl) _
      exact ⟨_, sg, bg, ds, sumIf_yes hall2.out, rfl, hOf.out.keeps kE (fun k hk e => by have := (hG2.out k hk).1; omega), sumL_slots S n Ls, hK3.out.trans' kE (fun j hj => .inr (by omega)), fun k hk => by have := (hG2.out k hk).1; omega⟩
end Go.Proofs.Ytdgcbjkopmlegaa
