/- the reference's buffer: a row of items; walks of Find, Note, Out -/
import Derived.Test.YtcejapdjkkmkaaaO
import Derived.Test.YtcejapdjkkmkaaaRecs
namespace Go.Proofs.Ytcejapdjkkmkaaa
open Go.RowKit

attribute [local go_sem ↓] Go.wp_at_zero Go.wp_at_succ

theorem info53 : (Try.prog.info? 53).map (fun i => (i.zero, i.size, i.bytes)) = some (some (.agg #[.int .i64 0, .int .i64 0, .string ByteArray.empty]), 3, 32) := by kernel_rfl

def itC (x : It) : List Value := [.int .i64 x.key, .int .i64 x.st, .string (strOfNums x.data)]
theorem itC_len (x : It) : (itC x).length = 3 := rfl
theorem itC_one (L : List It) : ∀ u ∈ recs itC L, u.oneCell' = true := by
  intro u hu
  obtain ⟨x, _, hx⟩ := List.mem_flatMap.1 hu
  simp [itC] at hx
  rcases hx with rfl | rfl | rfl <;> rfl

/-- the reference's buffer at rb holds l; its row is at a -/
structure RefB (w : World) (rb : Nat) (most : Int) (a : Option Addr) (cap : Nat) (l : List It) : Prop where
  head : w.heap[rb]? = some (.cells #[.int .i64 most, .slice a l.length cap] 46)
  row : RecRow itC 3 w 53 a cap l
  apart : blk a ≠ some rb
def rown (rb : Nat) (a : Option Addr) (k : Nat) : Prop := k = rb ∨ blk a = some k
def RefX (w : World) (rb : Nat) (most : Int) (l : List It) (R : Nat → Prop) : Prop := ∃ a cap, RefB w rb most a cap l ∧ R = rown rb a
theorem RefB.keeps {T : Nat → Prop} {w w' : World} {rb cap : Nat} {most : Int} {a : Option Addr} {l : List It} (h : RefB w rb most a cap l) (hk : Keeps T w w') (hn : ∀ k, rown rb a k → ¬ T k) : RefB w' rb most a cap l :=
  ⟨hk.heap h.head (hn rb (.inl rfl)), RowAt.keeps h.row hk (fun g hg => hn g (.inr hg)), h.apart⟩
theorem RefX.keeps {T : Nat → Prop} {w w' : World} {rb : Nat} {most : Int} {l : List It} {R : Nat → Prop} (h : RefX w rb most l R) (hk : Keeps T w w') (hn : ∀ k, R k → ¬ T k) : RefX w' rb most l R := by
  obtain ⟨a, cap, hB, rfl⟩ := h
  exact ⟨a, cap, hB.keeps hk hn, rfl⟩
theorem RefX.nil {w w' : World} {rb : Nat} {most : Int} {l : List It} {R : Nat → Prop} (h : RefX w rb most l R) (hk : Keeps Nil w w') : RefX w' rb most l R := h.keeps hk (fun _ _ h => h)
theorem RefX.lt {w : World} {rb : Nat} {most : Int} {l : List It} {R : Nat → Prop} (h : RefX w rb most l R) {k : Nat} (hk : R k) : k < w.heap.size := by
  obtain ⟨a, cap, hB, rfl⟩ := h
  rcases hk with rfl | hk
  · exact lt_of_heap hB.head
  · exact RowAt.lt hB.row hk
/-- a call on the reference -/
def ROut (w : World) (rb : Nat) (most : Int) (R : Nat → Prop) (v : Value) (l' : List It) (e : Ending) (w' : World) : Prop := e = .returned v ∧ ∃ R', RefX w' rb most l' R' ∧ Keeps R w w' ∧ Grow R R' w

theorem fidx' (k : Int) : ∀ (l : List It) (i : Nat), (iget k l = none ∧ kidx k (ikeys l) i = -1) ∨ ∃ j x, l[j]? = some x ∧ x.key = k ∧ iget k l = some x ∧ kidx k (ikeys l) i = ((i + j : Nat) : Int) ∧ idel k l = l.eraseIdx j ∧ ∀ r : It, r.key = k → iset r l = l.set j r
  | [], i => .inl ⟨rfl, rfl⟩
  | x :: l, i => by
    by_cases h : k = x.key
    · refine .inr ⟨0, x, rfl, h.symm, by simp [iget, h], by simp [kidx, ikeys, h], by simp [idel, h], fun r hr => by simp [iset, hr, h]⟩
    · rcases fidx' k l (i + 1) with ⟨h1, h2⟩ | ⟨j, y, h1, h2, h3, h4, h5, h6⟩
      · left
        refine ⟨by simp [iget, h, h1], ?_⟩
        have h2' : kidx k (l.map (·.key)) (i + 1) = -1 := h2
        simp [kidx, ikeys, h, h2']
      · right
        have h4' : kidx k (l.map (·.key)) (i + 1) = ((i + 1 + j : Nat) : Int) := h4
        refine ⟨j + 1, y, by simpa using h1, h2, by simp [iget, h, h3], ?_, by simp [idel, h, h5], fun r hr => ?_⟩
        · simp only [ikeys, List.map_cons, kidx, if_neg h, h4']
          congr 1; omega
        · have : ¬ r.key = x.key := fun e => h (hr ▸ e)
          simp [iset, this, h6 r hr]
theorem fidx (k : Int) (l : List It) : (iget k l = none ∧ kidx k (ikeys l) 0 = -1) ∨ ∃ (j : Nat) (x : It), l[j]? = some x ∧ x.key = k ∧ iget k l = some x ∧ kidx k (ikeys l) 0 = (j : Int) ∧ idel k l = l.eraseIdx j ∧ ∀ r : It, r.key = k → iset r l = l.set j r := by
  have := fidx' k l 0
  simpa only [Nat.zero_add] using this

variable {w : World} {rb cap : Nat} {most : Int} {a : Option Addr} {l : List It} {R : Nat → Prop}
set_option maxHeartbeats 1000000 in
theorem rfind_any (h : RefB w rb most a cap l) (k : Int) (hlen : l.length ≤ 1000000) :
    Calls Try.prog 16 #[.pointer (some ⟨rb, 0, none⟩), .int .i64 k] w fun e w' => e = .returned (.int .i64 (kidx k (ikeys l) 0)) ∧ w = w' := by
  have hh : w.cell? ⟨rb, 1, none⟩ = some (.slice a l.length cap) := cell_of_heap h.head 1
  have hr := Lib.hid h.row
  clear h
  go_enter Try.func16, Try.ntmps16
  go_wp2_with fail
  go_loop [5] (fun i => ∃ q : Nat, q ≤ l.length ∧ i = .int .i64 q ∧ Hid (kidx k (ikeys l) 0 = kidx k ((ikeys l).drop q) q)) (fun i => l.length - (intOf i).toNat)
  case atStart => exact ⟨0, Nat.zero_le _, rfl, rfl⟩
  case round =>
    obtain ⟨q, hq, rfl, hI⟩ := hrel
    by_cases hlt : q < l.length
    · obtain ⟨g, rfl, _, _, hc⟩ := hr.out.cell itC_len (List.getElem?_eq_getElem hlt)
      have hkq := hc 0 (.int .i64 l[q].key) (by decide) rfl
      have hd := Lib.hid (kidx_drop (k := k) (L := ikeys l) (q := q) (by simpa [ikeys] using hlt))
      rw [show gi (ikeys l) q = l[q].key by rw [gi_eq (by simpa [ikeys] using hlt)]; simp [ikeys]] at hd
      obtain ⟨kq, hkq0⟩ : ∃ kq, l[q].key = kq := ⟨_, rfl⟩
      rw [hkq0] at hkq hd
      rw [Nat.add_zero] at hkq
      clear hc hkq0
      by_cases hk : k = kq
      · have e1 : (kq == k) = true := by simpa using hk.symm
        have hI2 := Lib.hid (hI.out.trans (hd.out.trans (if_pos hk)))
        clear hI hd hk
        go_wp2_with fail
        go_ret
        exact ⟨ret_int hI2.out.symm, rfl⟩
      · have e1 : (kq == k) = false := by simpa using fun e => hk e.symm
        have hI2 := Lib.hid (hI.out.trans (hd.out.trans (if_neg hk)))
        clear hI hd hk
        go_wp2_with fail
        go_round
        case rel => exact ⟨q + 1, by omega, by go_num, hI2⟩
        case measure => simp [intOf]; omega
    · have hI2 := Lib.hid (show kidx k (ikeys l) 0 = -1 by rw [hI.out, List.drop_eq_nil_of_le (by simp [ikeys]; omega)]; rfl)
      clear hI
      go_wp2_with fail
      go_ret
      exact ⟨ret_int hI2.out.symm, rfl⟩
theorem rfindX (h : RefX w rb most l R) (k : Int) (hlen : l.length ≤ 1000000) :
    Calls Try.prog 16 #[.pointer (some ⟨rb, 0, none⟩), .int .i64 k] w fun e w' => e = .returned (.int .i64 (kidx k (ikeys l) 0)) ∧ w = w' := by
  obtain ⟨a, cap, hB, rfl⟩ := h
  exact rfind_any hB k hlen

set_option maxHeartbeats 2000000 in
set_option maxRecDepth 100000 in
theorem rnote_in (h : RefB w rb most a cap l) (r : It) {j : Nat} {x : It} (hx : l[j]? = some x) (hi : kidx r.key (ikeys l) 0 = (j : Int)) (hkey : x.key = r.key) (hlen : l.length ≤ 1000000) :
    Calls Try.prog 14 #[.pointer (some ⟨rb, 0, none⟩), .int .i64 r.key, .int .i64 r.st, .string (strOfNums r.data)] w fun e w' => e = .returned (.int .i64 0) ∧ RefB w' rb most a cap (l.set j r) ∧ Keeps (rown rb a) w w' := by
  have hh : w.cell? ⟨rb, 1, none⟩ = some (.slice a l.length cap) := cell_of_heap h.head 1
  have hF := Lib.hid (by have := rfind_any h r.key hlen; rw [hi] at this; exact this)
  have hjl : j < l.length := (List.getElem?_eq_some_iff.1 hx).1
  obtain ⟨g, rfl, hgl, hfz, hc⟩ := h.row.cell itC_len hx
  have c1 := hc 1 (.int .i64 x.st) (by decide) rfl
  have c2 := hc 2 (.string (strOfNums x.data)) (by decide) rfl
  have f1 := hfz (j * 3 + 1)
  have f2 := hfz (j * 3 + 2)
  have hgr : g ≠ rb := fun e => h.apart (by rw [e]; rfl)
  have hrl := lt_of_heap h.head
  have h' := Lib.hid h
  have hx' := Lib.hid hx
  have hk' := Lib.hid hkey
  clear h hx hc hfz hi hkey
  go_enter Try.func14, Try.ntmps14
  go_wp2_with fail
  refine (hF.out).mono ?_
  rintro e w1 ⟨rfl, rfl⟩
  go_wp2_with fail
  go_ret
  have k2 : Keeps (rown rb (some ⟨g, 0, none⟩)) w ((w.setCell ⟨g, j * 3 + 1, none⟩ (.int .i64 r.st)).setCell ⟨g, j * 3 + 2, none⟩ (.string (strOfNums r.data))) := ((Keeps.refl _ w).setCell (.inl (.inr rfl)) _).setCell (.inl (.inr rfl)) _
  refine ⟨rfl, ⟨?_, ?_, h'.out.apart⟩, k2⟩
  · rw [List.length_set, heap_setCell_other (fun e => hgr e.symm), heap_setCell_other (fun e => hgr e.symm)]
    exact h'.out.head
  · have r1 := RecRow.setField h'.out.row itC_len (i := 1) (y := ⟨x.key, r.st, x.data⟩) (v := .int .i64 r.st) (by decide) hx'.out rfl
    have hx2 : (l.set j ⟨x.key, r.st, x.data⟩)[j]? = some ⟨x.key, r.st, x.data⟩ := by simp [hjl]
    have r2 := RecRow.setField r1 itC_len (i := 2) (y := r) (v := .string (strOfNums r.data)) (by decide) hx2 (by rw [show r = ⟨r.key, r.st, r.data⟩ from rfl, ← hk'.out]; rfl)
    rw [List.set_set] at r2
    exact r2

set_option maxHeartbeats 2000000 in
set_option maxRecDepth 100000 in
theorem rnote_full (h : RefB w rb most a cap l) (k st : Int) (s : ByteArray) (hi : kidx k (ikeys l) 0 = -1) (hf : most ≤ (l.length : Int)) (hlen : l.length ≤ 1000000) :
    Calls Try.prog 14 #[.pointer (some ⟨rb, 0, none⟩), .int .i64 k, .int .i64 st, .string s] w fun e w' => e = .returned (.int .i64 90) ∧ Keeps Nil w w' := by
  have hh0 : w.cell? ⟨rb, 0, none⟩ = some (.int .i64 most) := cell_of_heap h.head 0
  have hh : w.cell? ⟨rb, 1, none⟩ = some (.slice a l.length cap) := cell_of_heap h.head 1
  have hF := Lib.hid (by have := rfind_any h k hlen; rw [hi] at this; exact this)
  have hd := decide_eq_true hf
  clear h hi
  go_enter Try.func14, Try.ntmps14
  go_wp2_with fail
  refine (hF.out).mono ?_
  rintro e w1 ⟨rfl, rfl⟩
  go_wp2_with fail
  go_quiet (fail)
  go_wp2_with fail
  go_ret
  exact ⟨rfl, (Keeps.refl Nil w).drewN _⟩

theorem src_rec {w : World} {b : Nat} {cs : List Value} {t : TypeId} {fr : Nat × Nat} (h : w.heap[b]? = some (.cells cs.toArray t fr)) : Src w (some ⟨b, 0, none⟩) cs.length 1 cs := by
  refine ⟨by simp, (fun h => by cases h), fun ad ha j u hu => ?_⟩
  cases ha
  rw [Addr.add_lit, Nat.zero_add, cell_of_heap h]
  simpa using hu

set_option maxHeartbeats 2000000 in
set_option maxRecDepth 100000 in
theorem rnote_new (h : RefB w rb most a cap l) (r : It) (hi : kidx r.key (ikeys l) 0 = -1) (hf : (l.length : Int) < most) (hlen : l.length ≤ 1000000) :
    Calls Try.prog 14 #[.pointer (some ⟨rb, 0, none⟩), .int .i64 r.key, .int .i64 r.st, .string (strOfNums r.data)] w fun e w' => e = .returned (.int .i64 0) ∧ ∃ a' cap', RefB w' rb most a' cap' (l ++ [r]) ∧ Keeps (rown rb a) w w' ∧ (blk a' = blk a ∨ ∃ g, blk a' = some g ∧ w.heap.size ≤ g) := by
  obtain ⟨i53, hi5, hz0, hz1, hz2⟩ := info_parts info53
  have hh0 : w.cell? ⟨rb, 0, none⟩ = some (.int .i64 most) := cell_of_heap h.head 0
  have hh : w.cell? ⟨rb, 1, none⟩ = some (.slice a l.length cap) := cell_of_heap h.head 1
  have hfz : w.frozen? ⟨rb, 1, none⟩ = false := frozen_of_heap h.head 1
  have hrl := lt_of_heap h.head
  have hF := Lib.hid (by have := rfind_any h r.key hlen; rw [hi] at this; exact this)
  have hd : decide (most ≤ (l.length : Int)) = false := decide_eq_false (by omega)
  have hb1 := Lib.hid (show l.length + 1 ≤ maxLen by unfold maxLen; omega)
  have hb2 := Lib.hid (show (l.length + 1) * 32 ≤ 140737488355328 by omega)
  have hap : ¬ blk a = some rb := h.apart
  have hap' := Lib.hid hap
  have h' := Lib.hid h
  obtain ⟨kr, sr, dr⟩ := r
  simp only at hF hi
  obtain ⟨s, hs⟩ : ∃ s, strOfNums dr = s := ⟨_, rfl⟩
  simp only [hs]
  have hs' := Lib.hid hs
  clear h hi hf hap hs
  go_enter Try.func14, Try.ntmps14
  go_wp2_with fail
  refine (hF.out).mono ?_
  rintro e w1 ⟨rfl, rfl⟩
  go_wp2_with fail
  go_quiet (fail)
  go_wp2_with (at_builtin; refine wpList_app _ rfl _ _ 44 rfl 53 i53 _ 3 32 Try.underlying44 hi5 hz0 hz1 hz2 rfl (by decide) a l.length cap _ rfl _ 1 1 [.int .i64 kr, .int .i64 sr, .string s] rfl ?_ (by exact RowAt.keeps h'.out.row (((Keeps.refl Nil w).drewN _).alloc _) (fun _ _ h => h)) (by exact src_rec (heap_alloc_new _ (.cells #[.int .i64 kr, .int .i64 sr, .string s] 53))) (fun h => by cases h) (by simp [Value.oneCell']) hb1.out hb2.out; intro a5 cap5 w5 hr5 hk5 hb5; have k5 := (((Keeps.refl (fun k => blk a = some k) w).drewN nq).alloc (.cells #[.int .i64 kr, .int .i64 sr, .string s] 53)).trans hk5; have c5 := k5.cell hh hap'.out; have f5 := k5.frozen hfz hrl hap'.out; have k5' := Lib.hid k5; have hr5' := Lib.hid hr5; have hb5' := Lib.hid hb5; clear hr5 hb5 hk5 k5 hh hh0 hfz)
  go_ret
  have hnew : blk a5 = blk a ∨ ∃ g, blk a5 = some g ∧ w.heap.size ≤ g := hb5'.out.elim .inl (fun e => .inr ⟨_, e.1, by simp⟩)
  have hne : ∀ g, blk a5 = some g → g ≠ rb := fun g hg e => by
    rcases hnew with h1 | ⟨g', h1, h2⟩
    · exact hap'.out (by rw [← h1, hg, e])
    · rw [h1] at hg; cases hg; omega
  refine ⟨rfl, a5, cap5, ⟨?_, ?_, fun e => hne rb e rfl⟩, (k5'.out.mono (fun j hj => .inr hj)).setCell (.inl (.inl rfl)) _, hnew⟩
  · rw [heap_setCell_same (k5'.out.heap h'.out.head hap'.out)]
    simp
  · have r5 : RecRow itC 3 w5 53 a5 cap5 (l ++ [⟨kr, sr, dr⟩]) := by
      unfold RecRow
      rw [recs_app, recs_one, List.length_append]
      simpa [itC, hs'.out] using hr5'.out
    exact r5.keeps ((Keeps.refl (· = rb) w5).setCell (.inl rfl) _) (fun g hg => hne g hg)
end Go.Proofs.Ytcejapdjkkmkaaa
