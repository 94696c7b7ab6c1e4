/- the reference's buffer: Out; the contracts on lists of items -/
import Derived.Test.YtcejapdjkkmkaaaR
namespace Go.Proofs.Ytcejapdjkkmkaaa
open Go.RowKit

attribute [local go_sem ↓] Go.wp_at_zero Go.wp_at_succ

variable {w : World} {rb cap : Nat} {most : Int} {a : Option Addr} {l : List It} {R : Nat → Prop}
theorem rout_mid {W2 w5 w6 : World} {a5 : Option Addr} (kA : Keeps Nil W2 w5) (hb5 : blk a5 = blk none ∨ blk a5 = some W2.heap.size ∧ W2.heap.size < w5.heap.size) (k6 : Keeps (fun j => blk a5 = some j) w5 w6) {b : Nat} {o : Obj} (h : W2.heap[b]? = some o) : w6.heap[b]? = some o := by
  refine k6.heap (kA.heap h (fun h => h)) (fun e => ?_)
  have := lt_of_heap h
  rcases hb5 with h1 | ⟨h1, _⟩
  · rw [e] at h1; cases h1
  · rw [e] at h1; cases h1; omega
set_option maxHeartbeats 4000000 in
set_option maxRecDepth 100000 in
theorem rout_any (h : RefB w rb most a cap l) {i : Nat} {x : It} (hx : l[i]? = some x) (hlen : l.length ≤ 1000000) :
    Calls Try.prog 17 #[.pointer (some ⟨rb, 0, none⟩), .int .i64 i] w fun e w' => e = .returned (.agg #[.int .i64 x.key, .int .i64 x.st, .string (strOfNums x.data)]) ∧ ∃ a' cap', RefB w' rb most a' cap' (l.eraseIdx i) ∧ Keeps (rown rb a) w w' ∧ (∀ g, blk a' = some g → w.heap.size ≤ g) := by
  obtain ⟨i53, hi5, hz0, hz1, hz2⟩ := info_parts info53
  have hh : w.cell? ⟨rb, 1, none⟩ = some (.slice a l.length cap) := cell_of_heap h.head 1
  have hfz : w.frozen? ⟨rb, 1, none⟩ = false := frozen_of_heap h.head 1
  have hrl := lt_of_heap h.head
  have hil : i < l.length := (List.getElem?_eq_some_iff.1 hx).1
  obtain ⟨g, rfl, hgl, _, hc⟩ := h.row.cell itC_len hx
  have c0 := hc 0 (.int .i64 x.key) (by decide) rfl
  have c1 := hc 1 (.int .i64 x.st) (by decide) rfl
  have c2 := hc 2 (.string (strOfNums x.data)) (by decide) rfl
  rw [Nat.add_zero] at c0
  have hgr : g ≠ rb := fun e => h.apart (by rw [e]; rfl)
  have hcap := h.row.cap_le
  have h' := Lib.hid h
  have hx' := Lib.hid hx
  obtain ⟨kx, sx, dx⟩ := x
  simp only at c0 c1 c2
  obtain ⟨s, hs⟩ : ∃ s, strOfNums dx = s := ⟨_, rfl⟩
  rw [hs] at c2
  simp only [hs]
  have hs' := Lib.hid hs
  clear h hx hc hs
  have hb1 := Lib.hid (show 0 + i ≤ maxLen by unfold maxLen; omega)
  have hb2 := Lib.hid (show (0 + i) * 32 ≤ 140737488355328 by omega)
  have hb3 := Lib.hid (show i + (l.length - (i + 1)) ≤ maxLen by unfold maxLen; omega)
  have hb4 := Lib.hid (show (i + (l.length - (i + 1))) * 32 ≤ 140737488355328 by omega)
  have p0 : (0 : Int) ≤ (i : Int) + 1 := by omega
  have p1 : (i : Int) + 1 ≤ (l.length : Int) := by omega
  have p2 : ((i : Int) + 1).toNat = i + 1 := by omega
  have p3 : (i : Int) ≤ (l.length : Int) := by omega
  have p4 : (i : Int) ≤ (cap : Int) := by omega
  have p5 : (i : Int) + 1 ≤ (cap : Int) := by omega
  obtain ⟨A, hA, hnews⟩ : ∃ A : Addr, (if cap = i + 1 then some (⟨g, 0, none⟩ : Addr) else some ⟨g, (i + 1) * 3, none⟩) = some A ∧ Src w (some A) 3 (l.length - (i + 1)) (recs itC (l.drop (i + 1))) := by
    by_cases hc : cap = i + 1
    · have h0 : l.drop (i + 1) = [] := List.drop_eq_nil_of_le (by omega)
      refine ⟨⟨g, 0, none⟩, by simp [hc], ?_⟩
      rw [h0, show l.length - (i + 1) = 0 by omega]
      exact src_none _ _
    · exact ⟨⟨g, (i + 1) * 3, none⟩, by simp [hc], h'.out.row.srcDrop itC_len (by omega)⟩
  have hnews' := Lib.hid hnews
  clear hnews
  go_enter Try.func17, Try.ntmps17
  have hwW : Keeps Nil w ((w.alloc (.cells #[.int .i64 0, .int .i64 0, .string ByteArray.empty] 53)).alloc (.cells #[.int .i64 kx, .int .i64 sx, .string s] 53)) := ((Keeps.refl Nil w).alloc _).alloc _
  have hwW' := Lib.hid hwW
  have hB0 : ((w.alloc (.cells #[.int .i64 0, .int .i64 0, .string ByteArray.empty] 53)).alloc (.cells #[.int .i64 kx, .int .i64 sx, .string s] 53)).heap[w.heap.size]? = some (.cells #[.int .i64 0, .int .i64 0, .string ByteArray.empty] 53) := heap_alloc_old (heap_alloc_new w _)
  have hB1 : ((w.alloc (.cells #[.int .i64 0, .int .i64 0, .string ByteArray.empty] 53)).alloc (.cells #[.int .i64 kx, .int .i64 sx, .string s] 53)).heap[w.heap.size + 1]? = some (.cells #[.int .i64 kx, .int .i64 sx, .string s] 53) := by
    have e : (w.alloc (.cells #[.int .i64 0, .int .i64 0, .string ByteArray.empty] 53)).heap.size = w.heap.size + 1 := by simp
    rw [← e]
    exact heap_alloc_new _ _
  have hz : ((w.alloc (.cells #[.int .i64 0, .int .i64 0, .string ByteArray.empty] 53)).alloc (.cells #[.int .i64 kx, .int .i64 sx, .string s] 53)).heap.size = w.heap.size + 2 := by simp
  have hB2 := hwW.heap h'.out.head (fun h => h)
  have hB0' := Lib.hid hB0
  have hB2' := Lib.hid hB2
  have hB1' := Lib.hid hB1
  have hz' := Lib.hid hz
  clear hwW hB0 hB1 hB2 hz
  go_wp2_with (first | (at_builtin; refine wpList_app _ rfl (.tmp 14) (.tmp 20) 44 rfl 53 i53 _ 3 32 Try.underlying44 hi5 hz0 hz1 hz2 rfl (by decide) none 0 0 [] rfl (some ⟨g, 0, none⟩) i cap (recs itC (l.take i)) rfl ?_ (RowAt.nil _ _ _) (by exact (h'.out.row.srcTake itC_len (by omega)).keeps hwW'.out) (fun h => by cases h) (itC_one _) hb1.out hb2.out; intro a5 cap5 w5 hr5 hk5 hb5; rw [List.nil_append, Nat.zero_add] at hr5; have kA := hk5.mono (T := Nil) (fun j hj => by cases hj); have d1 := (hwW'.out.trans kA).cell hh (fun h => h); have kA' := Lib.hid kA; have hr5' := Lib.hid hr5; have hb5' := Lib.hid hb5; clear hr5 hb5 hk5 kA hh) | (at_builtin; go_loud (refine wpList_app _ rfl (.tmp 23) (.tmp 30) 44 rfl 53 i53 _ 3 32 Try.underlying44 hi5 hz0 hz1 hz2 rfl (by decide) a5 i cap5 (recs itC (l.take i)) rfl (some A) (l.length - (i + 1)) (cap - (i + 1)) (recs itC (l.drop (i + 1))) rfl ?_ hr5'.out (hnews'.out.keeps (hwW'.out.trans kA'.out)) (fun h => by cases h) (itC_one _) hb3.out hb4.out; intro a6 cap6 w6 hr6 hk6 hb6; have y0 := rout_mid kA'.out hb5'.out hk6 hB0'.out; have y1 := rout_mid kA'.out hb5'.out hk6 hB1'.out; have y2 := rout_mid kA'.out hb5'.out hk6 hB2'.out; have u0 := cell_of_heap y0 0; have u1 := cell_of_heap y0 1; have u2 := cell_of_heap y0 2; have v0 := cell_of_heap y1 0; have v1 := cell_of_heap y1 1; have v2 := cell_of_heap y1 2; have rr := cell_of_heap y2 1; simp at u0 u1 u2 v0 v1 v2 rr; have g0 := frozen_of_heap y0 0; have g1 := frozen_of_heap y0 1; have g2 := frozen_of_heap y0 2; have g3 := frozen_of_heap y2 1; have s6 := lt_of_heap y1; have hr6' := Lib.hid hr6; have hk6' := Lib.hid hk6; have hb6' := Lib.hid hb6; clear hr6 hb6 hk6 y0 y1 y2 d1 hfz)))
  refine bodyPost_ret (v := .agg #[.int .i64 kx, .int .i64 sx, .string s]) (by simp [results, Try.results17, go_sem, u0, u1, u2]) rfl ?_
  have hlen' : (l.eraseIdx i).length = i + (l.length - (i + 1)) := by rw [List.length_eraseIdx]; simp [hil]; omega
  have kz : w.heap.size + 2 ≤ w5.heap.size := Nat.le_trans (Nat.le_of_eq hz'.out.symm) kA'.out.size
  have ha5 : ∀ q, blk a5 = some q → w.heap.size + 2 ≤ q := fun q hq => by
    rcases hb5'.out with e2 | ⟨e2, _⟩
    · rw [hq] at e2; cases e2
    · rw [hq] at e2; cases e2; exact Nat.le_of_eq hz'.out.symm
  have ha6 : ∀ q, blk a6 = some q → w.heap.size + 2 ≤ q := fun q hq => by
    rcases hb6'.out with e | ⟨e, _⟩
    · exact ha5 q (e ▸ hq)
    · rw [hq] at e; cases e; omega
  have k6 : Keeps Nil w w6 := (hwW'.out.trans kA'.out).trans' hk6'.out (fun j hj => .inr (by have := ha5 j hj; omega))
  have kF : Keeps (fun j => j = rb ∨ j = w.heap.size) w6 ((((w6.setCell ⟨rb, 1, none⟩ (.slice a6 (i + (l.length - (i + 1))) cap6)).setCell ⟨w.heap.size, 0, none⟩ (.int .i64 kx)).setCell ⟨w.heap.size, 1, none⟩ (.int .i64 sx)).setCell ⟨w.heap.size, 2, none⟩ (.string s)) :=
    ((((Keeps.refl _ w6).setCell (.inl (.inl rfl)) _).setCell (.inl (.inr rfl)) _).setCell (.inl (.inr rfl)) _).setCell (.inl (.inr rfl)) _
  refine ⟨rfl, a6, cap6, ⟨?_, ?_, fun e => by have := ha6 rb e; omega⟩, (k6.mono (fun _ h => h.elim)).trans' kF (fun j hj => hj.elim (fun e => .inl (.inl e)) (fun e => .inr (by omega))), fun q hq => by have := ha6 q hq; omega⟩
  · have hne : rb ≠ w.heap.size := by omega
    rw [heap_setCell_other hne, heap_setCell_other hne, heap_setCell_other hne, heap_setCell_same (k6.heap h'.out.head (fun h => h)), hlen']
    rfl
  · have r6 : RecRow itC 3 w6 53 a6 cap6 (l.eraseIdx i) := by
      unfold RecRow
      rw [hlen', List.eraseIdx_eq_take_drop_succ, recs_app]
      exact hr6'.out
    exact r6.keeps kF (fun q hq e => by have := ha6 q hq; omega)

/-! ### on lists of items -/
theorem routX (h : RefX w rb most l R) {i : Nat} {x : It} (hx : l[i]? = some x) (hlen : l.length ≤ 1000000) :
    Calls Try.prog 17 #[.pointer (some ⟨rb, 0, none⟩), .int .i64 i] w (ROut w rb most R (.agg #[.int .i64 x.key, .int .i64 x.st, .string (strOfNums x.data)]) (l.eraseIdx i)) := by
  obtain ⟨a, cap, hB, rfl⟩ := h
  refine (rout_any hB hx hlen).mono ?_
  rintro e w' ⟨rfl, a', cap', h1, h2, h3⟩
  refine ⟨rfl, _, ⟨a', cap', h1, rfl⟩, h2, ?_⟩
  rintro k (rfl | hk)
  · exact .inl (.inl rfl)
  · exact .inr (h3 k hk)
theorem rnoteX (h : RefX w rb most l R) (r : It) (hlen : l.length ≤ 1000000) :
    Calls Try.prog 14 #[.pointer (some ⟨rb, 0, none⟩), .int .i64 r.key, .int .i64 r.st, .string (strOfNums r.data)] w (ROut w rb most R (.int .i64 (icode most r.key l)) (iput most r l)) := by
  obtain ⟨a, cap, hB, rfl⟩ := h
  rcases fidx r.key l with ⟨h1, h2⟩ | ⟨j, x, h1, h2, h3, h4, h5, h6⟩
  · by_cases hf : most ≤ (l.length : Int)
    · have e : ifull most r.key l = true := by simp [ifull, h1, hf]
      unfold icode iput
      rw [e]
      refine (rnote_full hB r.key r.st _ h2 hf hlen).mono ?_
      rintro e w' ⟨rfl, hk⟩
      exact ⟨rfl, _, ⟨a, cap, hB.keeps hk (fun _ _ h => h), rfl⟩, hk.mono (fun _ h => h.elim), Grow.refl _ _⟩
    · have e : ifull most r.key l = false := by simp [ifull]; omega
      unfold icode iput
      rw [e, if_neg (by decide), if_neg (by decide), iset_new (iget_none.1 h1)]
      refine (rnote_new hB r h2 (by omega) hlen).mono ?_
      rintro e w' ⟨rfl, a', cap', hB', hk, hn⟩
      refine ⟨rfl, _, ⟨a', cap', hB', rfl⟩, hk, ?_⟩
      rintro k (rfl | hk')
      · exact .inl (.inl rfl)
      · rcases hn with e1 | ⟨g, e1, hge⟩
        · exact .inl (.inr (e1 ▸ hk'))
        · rw [e1] at hk'; cases hk'; exact .inr hge
  · have e : ifull most r.key l = false := by simp [ifull, h3]
    unfold icode iput
    rw [e, if_neg (by decide), if_neg (by decide), h6 r rfl]
    refine (rnote_in hB r h1 h4 h2 hlen).mono ?_
    rintro e w' ⟨rfl, hB', hk⟩
    exact ⟨rfl, _, ⟨a, cap, hB', rfl⟩, hk, Grow.refl _ _⟩
end Go.Proofs.Ytcejapdjkkmkaaa
