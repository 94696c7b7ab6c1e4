/- stripe: a row that is being filled: Add -/
import Derived.Test.YtdgcbjkopmlegaaW
import Derived.Test.YtdgcbjkopmlegaaFZ
namespace Go.Proofs.Ytdgcbjkopmlegaa
open Go.RowKit

attribute [local go_sem ↓] Go.wp_at_zero Go.wp_at_succ

/-- the place of a leaf that comes k-th, where the parity stands at p -/
def addAt (p : Int) (k : Nat) : Int := if p ≤ (k : Int) then (k : Int) + 1 else k
theorem addAt_hi {p : Int} {k : Nat} (h : p ≤ (k : Int)) : addAt p k = (k : Int) + 1 := if_pos h
theorem addAt_lo {p : Int} {k : Nat} (h : ¬ p ≤ (k : Int)) : addAt p k = k := if_neg h

set_option maxHeartbeats 8000000 in
set_option maxRecDepth 100000 in
theorem add17_bad {w : World} {ob S n : Nat} {row width : Int} {k sg bg : Nat} {ds : List Nat} {x y : Lf} {sa ba : Option Addr} {sc bc : Nat} (h : OpenB w ob S n row width k sg bg ds x) (hy : LfAt w sa ba y) (hok : LfOk y) (hm : mayB S n y = false) :
    Calls Try.prog 17 #[.pointer (some ⟨ob, 0, none⟩), .agg #[.slice sa y.sl.length sc, .slice ba y.se.length bc]] w fun e w' => e = .returned (.tuple #[.int .i64 0, .int .i64 1]) ∧ Keeps Nil w w' := by
  obtain ⟨n1, hn1⟩ : ∃ n1, y.sl.length = n1 := ⟨_, rfl⟩
  obtain ⟨n2, hn2⟩ : ∃ n2, y.se.length = n2 := ⟨_, rfl⟩
  have hM := Lib.hid (show ∀ W, Keeps Nil w W → Calls Try.prog 25 #[.agg #[.int .i64 S, .int .i64 n, .int .i64 1], .agg #[.slice sa n1 sc, .slice ba n2 bc]] W fun e w' => e = .returned (.bool false) ∧ Keeps Nil W w' from fun W hk => by
    have := may25 (sc := sc) (bc := bc) S n 1 (hy.nil hk) hok
    rw [hm, hn1, hn2] at this
    exact this)
  rw [hn1, hn2]
  have kA := Lib.hid ((Keeps.refl Nil w).alloc (.cells #[.slice sa n1 sc, .slice ba n2 bc] 35))
  have hb := Lib.hid (heap_alloc_new w (.cells #[.slice sa n1 sc, .slice ba n2 bc] 35))
  have hLC := Lib.hid (show ∀ W, Keeps Nil (w.alloc (.cells #[.slice sa n1 sc, .slice ba n2 bc] 35)) W → W.cell? ⟨ob, 0, none⟩ = some (.int .i64 S) ∧ W.cell? ⟨ob, 1, none⟩ = some (.int .i64 n) ∧ W.cell? ⟨ob, 2, none⟩ = some (.int .i64 1) ∧ W.cell? ⟨w.heap.size, 0, none⟩ = some (.slice sa n1 sc) ∧ W.cell? ⟨w.heap.size, 1, none⟩ = some (.slice ba n2 bc) from fun W hk => by
    have hh := (kA.out.trans hk).heap h.head (fun h => h)
    have hb2 := hk.heap hb.out (fun h => h)
    exact ⟨cell_of_heap hh 0, cell_of_heap hh 1, cell_of_heap hh 2, cell_of_heap hb2 0, cell_of_heap hb2 1⟩)
  clear h hy hok hm hn1 hn2 hb
  go_enter Try.func17, Try.ntmps17
  go_wp2_with fail
  obtain ⟨w2, hw2⟩ : ∃ w2, w.alloc (.cells #[.slice sa n1 sc, .slice ba n2 bc] 35) = w2 := ⟨_, rfl⟩
  rw [hw2] at hLC kA ⊢
  clear hw2
  go_region_held3 (fun W => W.cell? ⟨ob, 0, none⟩ = some (.int .i64 S) ∧ W.cell? ⟨ob, 1, none⟩ = some (.int .i64 n) ∧ W.cell? ⟨ob, 2, none⟩ = some (.int .i64 1) ∧ W.cell? ⟨w.heap.size, 0, none⟩ = some (.slice sa n1 sc) ∧ W.cell? ⟨w.heap.size, 1, none⟩ = some (.slice ba n2 bc)) ((refine hLC.out _ ?_; first | exact (Keeps.refl Nil w2).drew | exact hk5'.out)) ((go_at_call 25; refine (hM.out _ (by exact kA.out.drew)).mono ?_; rintro e w5 ⟨rfl, hk5⟩; have hk5' := Lib.hid ((Keeps.refl Nil w2).drew.trans hk5); clear hk5))
  go_wp2_with fail
  go_ret2
  exact ⟨rfl, kA.out.trans hk5'.out⟩

set_option maxHeartbeats 8000000 in
set_option maxRecDepth 100000 in
theorem add17_full {w : World} {ob S n : Nat} {row width : Int} {k sg bg : Nat} {ds : List Nat} {x y : Lf} {sa ba : Option Addr} {sc bc : Nat} (h : OpenB w ob S n row width k sg bg ds x) (hw1 : 2 ≤ width) (hw2 : width ≤ 255) (hk : (k : Int) = width - 1) (hy : LfAt w sa ba y) (hok : LfOk y) (hm : mayB S n y = true) :
    Calls Try.prog 17 #[.pointer (some ⟨ob, 0, none⟩), .agg #[.slice sa n sc, .slice ba n bc]] w fun e w' => e = .returned (.tuple #[.int .i64 0, .int .i64 90]) ∧ Keeps Nil w w' := by
  obtain ⟨hn1, hn2, _⟩ := mayB_parts hm
  have hn1' : y.sl.length = n := by omega
  have hn2' : y.se.length = n := by omega
  have hM := Lib.hid (show ∀ W, Keeps Nil w W → Calls Try.prog 25 #[.agg #[.int .i64 S, .int .i64 n, .int .i64 1], .agg #[.slice sa n sc, .slice ba n bc]] W fun e w' => e = .returned (.bool true) ∧ Keeps Nil W w' from fun W hk => by
    have := may25 (sc := sc) (bc := bc) S n 1 (hy.nil hk) hok
    rw [hm, hn1', hn2'] at this
    exact this)
  have hLf := Lib.hid (show ∀ W, Keeps Nil w W → Calls Try.prog 19 #[.pointer (some ⟨ob, 0, none⟩)] W fun e w' => e = .returned (.int .i64 0) ∧ Keeps Nil W w' from fun W hkw => by
    have := left19x (h.keeps hkw (fun _ _ h => h)) hw1 hw2 (by omega)
    rw [show width - 1 - (k : Int) = 0 by omega] at this
    exact this)
  have kA := Lib.hid ((Keeps.refl Nil w).alloc (.cells #[.slice sa n sc, .slice ba n bc] 35))
  have hb := Lib.hid (heap_alloc_new w (.cells #[.slice sa n sc, .slice ba n bc] 35))
  have hLC := Lib.hid (show ∀ W, Keeps Nil (w.alloc (.cells #[.slice sa n sc, .slice ba n bc] 35)) W → W.cell? ⟨ob, 0, none⟩ = some (.int .i64 S) ∧ W.cell? ⟨ob, 1, none⟩ = some (.int .i64 n) ∧ W.cell? ⟨ob, 2, none⟩ = some (.int .i64 1) ∧ W.cell? ⟨w.heap.size, 0, none⟩ = some (.slice sa n sc) ∧ W.cell? ⟨w.heap.size, 1, none⟩ = some (.slice ba n bc) from fun W hk => by
    have hh := (kA.out.trans hk).heap h.head (fun h => h)
    have hb2 := hk.heap hb.out (fun h => h)
    exact ⟨cell_of_heap hh 0, cell_of_heap hh 1, cell_of_heap hh 2, cell_of_heap hb2 0, cell_of_heap hb2 1⟩)
  clear h hy hok hm hn1 hn2 hn1' hn2' hb hk hw1 hw2
  go_enter Try.func17, Try.ntmps17
  go_wp2_with fail
  obtain ⟨w2, hw2⟩ : ∃ w2, w.alloc (.cells #[.slice sa n sc, .slice ba n bc] 35) = w2 := ⟨_, rfl⟩
  rw [hw2] at hLC kA ⊢
  clear hw2
  go_region_held3 (fun W => W.cell? ⟨ob, 0, none⟩ = some (.int .i64 S) ∧ W.cell? ⟨ob, 1, none⟩ = some (.int .i64 n) ∧ W.cell? ⟨ob, 2, none⟩ = some (.int .i64 1) ∧ W.cell? ⟨w.heap.size, 0, none⟩ = some (.slice sa n sc) ∧ W.cell? ⟨w.heap.size, 1, none⟩ = some (.slice ba n bc)) ((refine hLC.out _ ?_; first | exact (Keeps.refl Nil w2).drew | exact hk5'.out)) ((go_at_call 25; refine (hM.out _ (by exact kA.out.drew)).mono ?_; rintro e w5 ⟨rfl, hk5⟩; have hk5' := Lib.hid ((Keeps.refl Nil w2).drew.trans hk5); clear hk5))
  go_wp2_with fail
  refine (hLf.out _ (kA.out.trans hk5'.out)).mono ?_
  rintro e w6 ⟨rfl, hk6⟩
  go_wp2_with fail
  go_ret2
  exact ⟨rfl, (kA.out.trans hk5'.out).trans hk6⟩

set_option maxHeartbeats 16000000 in
set_option maxRecDepth 100000 in
theorem add17_ok {w : World} {ob S n : Nat} {row width : Int} {k sg bg : Nat} {ds : List Nat} {x y : Lf} {sa ba : Option Addr} {sc bc : Nat} {Z : Nat → Prop} (hS : S ≤ 256) (hn : n ≤ 8) (h : OpenB w ob S n row width k sg bg ds x) (hw1 : 2 ≤ width) (hw2 : width ≤ 255) (hrow : row ≤ 9223372036854775807) (hk : (k : Int) < width - 1) (hy : LfZ w sa ba y Z) (hZ : ∀ q, Z q → ¬ oown ob sg bg ds q) (hry : Right S n y) :
    Calls Try.prog 17 #[.pointer (some ⟨ob, 0, none⟩), .agg #[.slice sa n sc, .slice ba n bc]] w fun e w' => e = .returned (.tuple #[.int .i64 (addAt (plF row width) k), .int .i64 0]) ∧ OpenB w' ob S n row width (k + 1) sg bg ds (joinLf x y) ∧ Keeps (oown ob sg bg ds) w w' := by
  have hm := hry.may
  have hok := hry.ok (by omega) (by omega)
  have hn1' := hry.l1
  have hn2' := hry.l2
  have hM := Lib.hid (show ∀ W, Keeps Nil w W → Calls Try.prog 25 #[.agg #[.int .i64 S, .int .i64 n, .int .i64 1], .agg #[.slice sa n sc, .slice ba n bc]] W fun e w' => e = .returned (.bool true) ∧ Keeps Nil W w' from fun W hk => by
    have := may25 (sc := sc) (bc := bc) S n 1 (hy.at.nil hk) hok
    rw [hm, hn1', hn2'] at this
    exact this)
  obtain ⟨z, hz⟩ : ∃ z, width - 1 - (k : Int) = z := ⟨_, rfl⟩
  have hz0 : ¬ z = 0 := by omega
  have ez : (z == 0) = false := by simpa using hz0
  have hLf := Lib.hid (show ∀ W, Keeps Nil w W → Calls Try.prog 19 #[.pointer (some ⟨ob, 0, none⟩)] W fun e w' => e = .returned (.int .i64 z) ∧ Keeps Nil W w' from fun W hkw => by
    have := left19x (h.keeps hkw (fun _ _ h => h)) hw1 hw2 (by omega)
    rw [hz] at this
    exact this)
  obtain ⟨p, hp⟩ : ∃ p, plF row width = p := ⟨_, rfl⟩
  have hP := Lib.hid (fun W => place10 row width W hrow)
  rw [hp] at hP ⊢
  have kA := Lib.hid ((Keeps.refl Nil w).alloc (.cells #[.slice sa n sc, .slice ba n bc] 35))
  have hb := Lib.hid (heap_alloc_new w (.cells #[.slice sa n sc, .slice ba n bc] 35))
  have h' := Lib.hid h
  have hy' := Lib.hid hy
  have hZ' := Lib.hid hZ
  have hry' := Lib.hid hry
  have hsz : ob < w.heap.size := lt_of_heap h.head
  have hlw := Lib.hid (fun q (hq : oown ob sg bg ds q) => h.lt hq)
  have hLC := Lib.hid (show ∀ W, Keeps (lown sg bg ds) (w.alloc (.cells #[.slice sa n sc, .slice ba n bc] 35)) W → W.cell? ⟨ob, 0, none⟩ = some (.int .i64 S) ∧ W.cell? ⟨ob, 1, none⟩ = some (.int .i64 n) ∧ W.cell? ⟨ob, 2, none⟩ = some (.int .i64 1) ∧ W.cell? ⟨w.heap.size, 0, none⟩ = some (.slice sa n sc) ∧ W.cell? ⟨w.heap.size, 1, none⟩ = some (.slice ba n bc) from fun W hk => by
    have hh := hk.heap (kA.out.heap h.head (fun h => h)) h.apart
    have hb2 := hk.heap hb.out (fun e => by have := h.lt (.inr e); omega)
    exact ⟨cell_of_heap hh 0, cell_of_heap hh 1, cell_of_heap hh 2, cell_of_heap hb2 0, cell_of_heap hb2 1⟩)
  clear h hy hok hm hn1' hn2' hb hZ hry
  go_enter Try.func17, Try.ntmps17
  go_wp2_with fail
  obtain ⟨w2, hw2⟩ : ∃ w2, w.alloc (.cells #[.slice sa n sc, .slice ba n bc] 35) = w2 := ⟨_, rfl⟩
  rw [hw2] at hLC kA ⊢
  clear hw2
  go_region_held3 (fun W => W.cell? ⟨ob, 0, none⟩ = some (.int .i64 S) ∧ W.cell? ⟨ob, 1, none⟩ = some (.int .i64 n) ∧ W.cell? ⟨ob, 2, none⟩ = some (.int .i64 1) ∧ W.cell? ⟨w.heap.size, 0, none⟩ = some (.slice sa n sc) ∧ W.cell? ⟨w.heap.size, 1, none⟩ = some (.slice ba n bc)) ((refine hLC.out _ ?_; first | exact (Keeps.refl _ w2).drew | exact hk5'.out.mono (fun _ h => h.elim))) ((go_at_call 25; refine (hM.out _ (by exact kA.out.drew)).mono ?_; rintro e w5 ⟨rfl, hk5⟩; have hk5' := Lib.hid ((Keeps.refl Nil w2).drew.trans hk5); clear hk5))
  go_wp2_with fail
  refine (hLf.out _ (kA.out.trans hk5'.out)).mono ?_
  rintro e w6 ⟨rfl, hk6⟩
  have k26 := Lib.hid (hk5'.out.trans hk6)
  have k6 := Lib.hid (kA.out.trans k26.out)
  clear hk6
  go_wp2_with fail
  have h6 := Lib.hid (h'.out.keeps k6.out (fun _ _ h => h))
  have hJ := Lib.hid (show ∀ W, Keeps Nil w6 W → Calls Try.prog 26 #[.pointer (some ⟨ob, 6, none⟩), .agg #[.slice sa n sc, .slice ba n bc]] W fun e w' => e = .returned (.tuple #[]) ∧ OwnLf w' S sg bg ds (joinLf x y) ∧ Keeps (lown sg bg ds) W w' from fun W hk => by
    have hW := h6.out.keeps hk (fun _ _ h => h)
    exact join26z (cell_of_heap hW.head 6) (cell_of_heap hW.head 7) hW.own hW.right.l1 ((hy'.out.keeps (k6.out.trans hk) (fun _ _ h => h)).mem) hry'.out.l1 hry'.out.l2 (fun i hi => by rw [(hry'.out.se _ (List.getElem_mem hi)).1]; exact Nat.le_refl _) (fun q hq hz => hZ'.out q hz (.inr hq)) hW.apart (by omega) (by omega))
  go_region_held3 (fun W => W.cell? ⟨w.heap.size, 0, none⟩ = some (.slice sa n sc) ∧ W.cell? ⟨w.heap.size, 1, none⟩ = some (.slice ba n bc)) ((refine (hLC.out _ ?_).2.2.2; first | exact (k26.out.mono (fun _ h => h.elim)).drew | exact (k26.out.mono (fun _ h => h.elim)).trans hk7'.out)) ((go_at_call 26; refine (hJ.out _ (by exact (Keeps.refl Nil w6).drew)).mono ?_; rintro e w7 ⟨rfl, hO7, hk7⟩; have hk7' := Lib.hid ((Keeps.refl (lown sg bg ds) w6).drew.trans hk7); have hO7' := Lib.hid hO7; clear hk7 hO7))
  have hh := hk7'.out.heap h6.out.head h6.out.apart
  have l1 := cell_of_heap hh 3
  have l2 := cell_of_heap hh 4
  have l3 := cell_of_heap hh 5
  simp at l1 l2 l3
  have lf := frozen_of_heap hh 5
  have hol := lt_of_heap hh
  have hh' := Lib.hid hh
  have x1 : wrap64 ((k : Int) + 1) = (k : Int) + 1 := by unfold wrap64; omega
  clear hh
  have hh8 := Lib.hid (heap_set_at (o := 5) (v := .int .i64 ((k : Int) + 1)) hh'.out (c' := #[.int .i64 S, .int .i64 n, .int .i64 1, .int .i64 row, .int .i64 width, .int .i64 ((k : Int) + 1), .slice (some ⟨sg, 0, none⟩) n n, .slice (some ⟨bg, 0, none⟩) n n]) (by simp))
  have hfin := Lib.hid (show OpenB (w7.setCell ⟨ob, 5, none⟩ (.int .i64 ((k : Int) + 1))) ob S n row width (k + 1) sg bg ds (joinLf x y) from ⟨by simpa using hh8.out, hO7'.out.keeps ((Keeps.refl (· = ob) w7).setCell (p := ⟨ob, 5, none⟩) (.inl rfl) _) (fun q hq e => h'.out.apart (e ▸ hq)), h'.out.right.join hry'.out, h'.out.apart⟩)
  have kfin := Lib.hid (show Keeps (oown ob sg bg ds) w (w7.setCell ⟨ob, 5, none⟩ (.int .i64 ((k : Int) + 1))) from ((k6.out.mono (fun _ h => h.elim)).trans (hk7'.out.mono (fun _ h => .inr h))).setCell (p := ⟨ob, 5, none⟩) (.inl (.inl rfl)) _)
  clear hz hz0 hk hw1 hw2 hrow hS hn hsz
  by_cases hpk : p ≤ (k : Int)
  · have e := Lib.hid (addAt_hi hpk)
    have d1 := decide_eq_true hpk
    clear hpk
    go_wp2_with fail
    go_quiet ((go_at_call 10; exact Calls.quiet_of_same ((hP.out _).mono (fun _ _ h => ⟨h.1, h.2.symm⟩))))
    go_wp2_with fail
    go_ret2
    exact ⟨by (rw [e.out]; first | rfl | simp [x1]), hfin.out.keeps ((Keeps.refl Nil _).drewN _) (fun _ _ h => h), kfin.out.drewN _⟩
  · have e := Lib.hid (addAt_lo hpk)
    have d1 := decide_eq_false hpk
    clear hpk
    go_wp2_with fail
    go_quiet ((go_at_call 10; exact Calls.quiet_of_same ((hP.out _).mono (fun _ _ h => ⟨h.1, h.2.symm⟩))))
    go_wp2_with fail
    go_ret2
    exact ⟨by (rw [e.out]; first | rfl | simp [x1]), hfin.out.keeps ((Keeps.refl Nil _).drewN _) (fun _ _ h => h), kfin.out.drewN _⟩
end Go.Proofs.Ytdgcbjkopmlegaa
