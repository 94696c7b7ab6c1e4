/- the reference's cache: the walks of find, out -/
import Derived.Test.YtnickcjkipemmaaRefA
namespace Go.Proofs.Ytnickcjkipemmaa
open Go.RowKit

attribute [local go_sem ↓] Go.wp_at_zero Go.wp_at_succ

variable {w : World} {rb cap : Nat} {most : Int} {a : Option Addr} {l : List Ent} {R : Nat → Prop}
set_option maxHeartbeats 1000000 in
theorem rfind_any (h : RefB w rb most a cap l) (k : Int) (hlen : l.length ≤ 1000000) :
    Calls Try.prog 46 #[.pointer (some ⟨rb, 0, none⟩), .int .i64 k] w fun e w' => e = .returned (.int .i64 (lidx k l 0)) ∧ w = w' := by
  have hh : w.cell? ⟨rb, 1, none⟩ = some (.slice a l.length cap) := cell_of_heap h.head 1
  have hr := Lib.hid h.row
  clear h
  go_enter Try.func46, Try.ntmps46
  go_wp2_with fail
  go_loop [5] (fun i => ∃ q : Nat, q ≤ l.length ∧ i = .int .i64 q ∧ Hid (lidx k l 0 = lidx k (l.drop q) q)) (fun i => l.length - (intOf i).toNat)
  case atStart => exact ⟨0, Nat.zero_le _, rfl, rfl⟩
  case round =>
    obtain ⟨q, hq, rfl, hI⟩ := hrel
    by_cases hlt : q < l.length
    · obtain ⟨g, rfl, _, _, hc⟩ := hr.out.cell entC_l3 (List.getElem?_eq_getElem hlt)
      have hkq := hc 0 (.int .i64 l[q].key) (by decide) rfl
      have hd := Lib.hid (lidx_drop (k := k) hlt)
      obtain ⟨kq, hkq0⟩ : ∃ kq, l[q].key = kq := ⟨_, rfl⟩
      rw [hkq0] at hkq hd
      rw [Nat.add_zero] at hkq
      clear hc hkq0
      by_cases hk : kq = k
      · have e1 : (kq == k) = true := by simpa using hk
        have hI2 := Lib.hid (hI.out.trans (hd.out.trans (if_pos hk)))
        clear hI hd hk
        go_wp2_with fail
        go_ret
        exact ⟨ret_int hI2.out.symm, rfl⟩
      · have e1 : (kq == k) = false := by simpa using hk
        have hI2 := Lib.hid (hI.out.trans (hd.out.trans (if_neg hk)))
        clear hI hd hk
        go_wp2_with fail
        go_round
        case rel => exact ⟨q + 1, by omega, by go_num, hI2⟩
        case measure => simp [intOf]; omega
    · have hI2 := Lib.hid (show lidx k l 0 = -1 by rw [hI.out, List.drop_eq_nil_of_le (by omega)]; rfl)
      clear hI
      go_wp2_with fail
      go_ret
      exact ⟨ret_int hI2.out.symm, rfl⟩
theorem rfindX (h : RefX w rb most l R) (k : Int) (hlen : l.length ≤ 1000000) :
    Calls Try.prog 46 #[.pointer (some ⟨rb, 0, none⟩), .int .i64 k] w fun e w' => e = .returned (.int .i64 (lidx k l 0)) ∧ w = w' := by
  obtain ⟨a, cap, hB, rfl⟩ := h
  exact rfind_any hB k hlen

theorem rout_mid {W2 w5 w6 : World} {a5 : Option Addr} (kA : Keeps Nil W2 w5) (hb5 : blk a5 = blk none ∨ blk a5 = some W2.heap.size ∧ W2.heap.size < w5.heap.size) (k6 : Keeps (fun j => blk a5 = some j) w5 w6) {b : Nat} {o : Obj} (h : W2.heap[b]? = some o) : w6.heap[b]? = some o := by
  refine k6.heap (kA.heap h (fun h => h)) (fun e => ?_)
  have := lt_of_heap h
  rcases hb5 with h1 | ⟨h1, _⟩
  · rw [e] at h1; cases h1
  · rw [e] at h1; cases h1; omega
set_option maxHeartbeats 4000000 in
set_option maxRecDepth 100000 in
theorem rout_any (h : RefB w rb most a cap l) {i : Nat} {x : Ent} (hx : l[i]? = some x) (hlen : l.length ≤ 1000000) :
    Calls Try.prog 47 #[.pointer (some ⟨rb, 0, none⟩), .int .i64 i] w fun e w' => e = .returned (entV x) ∧ ∃ a' cap', RefB w' rb most a' cap' (l.eraseIdx i) ∧ Keeps (rown rb a) w w' ∧ (∀ g, blk a' = some g → w.heap.size ≤ g) := by
  obtain ⟨i54, hi5, hz0, hz1, hz2⟩ := info_parts info54
  have hh : w.cell? ⟨rb, 1, none⟩ = some (.slice a l.length cap) := cell_of_heap h.head 1
  have hfz : w.frozen? ⟨rb, 1, none⟩ = false := frozen_of_heap h.head 1
  have hrl := lt_of_heap h.head
  have hil : i < l.length := (List.getElem?_eq_some_iff.1 hx).1
  obtain ⟨g, rfl, hgl, _, hc⟩ := h.row.cell entC_l3 hx
  have c0 := hc 0 (.int .i64 x.key) (by decide) rfl
  have c1 := hc 1 (.int .u64 x.val) (by decide) rfl
  have c2 := hc 2 (.bool x.dirty) (by decide) rfl
  rw [Nat.add_zero] at c0
  have hgr : g ≠ rb := fun e => h.apart (by rw [e]; rfl)
  have hcap := h.row.cap_le
  have h' := Lib.hid h
  have hx' := Lib.hid hx
  obtain ⟨kx, sx, s⟩ := x
  simp only at c0 c1 c2
  clear h hx hc
  have hb1 := Lib.hid (show 0 + i ≤ maxLen by unfold maxLen; omega)
  have hb2 := Lib.hid (show (0 + i) * 24 ≤ 140737488355328 by omega)
  have hb3 := Lib.hid (show i + (l.length - (i + 1)) ≤ maxLen by unfold maxLen; omega)
  have hb4 := Lib.hid (show (i + (l.length - (i + 1))) * 24 ≤ 140737488355328 by omega)
  have p0 : (0 : Int) ≤ (i : Int) + 1 := by omega
  have p1 : (i : Int) + 1 ≤ (l.length : Int) := by omega
  have p2 : ((i : Int) + 1).toNat = i + 1 := by omega
  have p3 : (i : Int) ≤ (l.length : Int) := by omega
  have p4 : (i : Int) ≤ (cap : Int) := by omega
  have p5 : (i : Int) + 1 ≤ (cap : Int) := by omega
  obtain ⟨A, hA, hnews⟩ : ∃ A : Addr, (if cap = i + 1 then some (⟨g, 0, none⟩ : Addr) else some ⟨g, (i + 1) * 3, none⟩) = some A ∧ Src w (some A) 3 (l.length - (i + 1)) (recs entC (l.drop (i + 1))) := by
    by_cases hc : cap = i + 1
    · have h0 : l.drop (i + 1) = [] := List.drop_eq_nil_of_le (by omega)
      refine ⟨⟨g, 0, none⟩, by simp [hc], ?_⟩
      rw [h0, show l.length - (i + 1) = 0 by omega]
      exact src_none _ _
    · exact ⟨⟨g, (i + 1) * 3, none⟩, by simp [hc], h'.out.row.srcDrop entC_l3 (by omega)⟩
  have hnews' := Lib.hid hnews
  clear hnews
  go_enter Try.func47, Try.ntmps47
  have hwW : Keeps Nil w ((w.alloc (.cells #[.int .i64 0, .int .u64 0, .bool false] 54)).alloc (.cells #[.int .i64 kx, .int .u64 sx, .bool s] 54)) := ((Keeps.refl Nil w).alloc _).alloc _
  have hwW' := Lib.hid hwW
  have hB0 : ((w.alloc (.cells #[.int .i64 0, .int .u64 0, .bool false] 54)).alloc (.cells #[.int .i64 kx, .int .u64 sx, .bool s] 54)).heap[w.heap.size]? = some (.cells #[.int .i64 0, .int .u64 0, .bool false] 54) := heap_alloc_old (heap_alloc_new w _)
  have hB1 : ((w.alloc (.cells #[.int .i64 0, .int .u64 0, .bool false] 54)).alloc (.cells #[.int .i64 kx, .int .u64 sx, .bool s] 54)).heap[w.heap.size + 1]? = some (.cells #[.int .i64 kx, .int .u64 sx, .bool s] 54) := by
    have e : (w.alloc (.cells #[.int .i64 0, .int .u64 0, .bool false] 54)).heap.size = w.heap.size + 1 := by simp
    rw [← e]
    exact heap_alloc_new _ _
  have hz : ((w.alloc (.cells #[.int .i64 0, .int .u64 0, .bool false] 54)).alloc (.cells #[.int .i64 kx, .int .u64 sx, .bool s] 54)).heap.size = w.heap.size + 2 := by simp
  have hB2 := hwW.heap h'.out.head (fun h => h)
  have hB0' := Lib.hid hB0
  have hB2' := Lib.hid hB2
  have hB1' := Lib.hid hB1
  have hz' := Lib.hid hz
  clear hwW hB0 hB1 hB2 hz
  go_wp2_with (first | (at_builtin; refine wpList_app _ rfl (.tmp 14) (.tmp 20) 51 rfl 54 i54 _ 3 24 Try.underlying51 hi5 hz0 hz1 hz2 rfl (by decide) none 0 0 [] rfl (some ⟨g, 0, none⟩) i cap (recs entC (l.take i)) rfl ?_ (RowAt.nil _ _ _) (by exact (h'.out.row.srcTake entC_l3 (by omega)).keeps hwW'.out) (fun h => by cases h) (entR_one _) hb1.out hb2.out; intro a5 cap5 w5 hr5 hk5 hb5; rw [List.nil_append, Nat.zero_add] at hr5; have kA := hk5.mono (T := Nil) (fun j hj => by cases hj); have d1 := (hwW'.out.trans kA).cell hh (fun h => h); have kA' := Lib.hid kA; have hr5' := Lib.hid hr5; have hb5' := Lib.hid hb5; clear hr5 hb5 hk5 kA hh) | (at_builtin; go_loud (refine wpList_app _ rfl (.tmp 23) (.tmp 30) 51 rfl 54 i54 _ 3 24 Try.underlying51 hi5 hz0 hz1 hz2 rfl (by decide) a5 i cap5 (recs entC (l.take i)) rfl (some A) (l.length - (i + 1)) (cap - (i + 1)) (recs entC (l.drop (i + 1))) rfl ?_ hr5'.out (hnews'.out.keeps (hwW'.out.trans kA'.out)) (fun h => by cases h) (entR_one _) hb3.out hb4.out; intro a6 cap6 w6 hr6 hk6 hb6; have y0 := rout_mid kA'.out hb5'.out hk6 hB0'.out; have y1 := rout_mid kA'.out hb5'.out hk6 hB1'.out; have y2 := rout_mid kA'.out hb5'.out hk6 hB2'.out; have u0 := cell_of_heap y0 0; have u1 := cell_of_heap y0 1; have u2 := cell_of_heap y0 2; have v0 := cell_of_heap y1 0; have v1 := cell_of_heap y1 1; have v2 := cell_of_heap y1 2; have rr := cell_of_heap y2 1; simp at u0 u1 u2 v0 v1 v2 rr; have g0 := frozen_of_heap y0 0; have g1 := frozen_of_heap y0 1; have g2 := frozen_of_heap y0 2; have g3 := frozen_of_heap y2 1; have s6 := lt_of_heap y1; have hr6' := Lib.hid hr6; have hk6' := Lib.hid hk6; have hb6' := Lib.hid hb6; clear hr6 hb6 hk6 y0 y1 y2 d1 hfz)))
  refine bodyPost_ret (v := .agg #[.int .i64 kx, .int .u64 sx, .bool s]) (by simp [results, Try.results47, go_sem, u0, u1, u2]) rfl ?_
  have hlen' : (l.eraseIdx i).length = i + (l.length - (i + 1)) := by rw [List.length_eraseIdx]; simp [hil]; omega
  have kz : w.heap.size + 2 ≤ w5.heap.size := Nat.le_trans (Nat.le_of_eq hz'.out.symm) kA'.out.size
  have ha5 : ∀ q, blk a5 = some q → w.heap.size + 2 ≤ q := fun q hq => by
    rcases hb5'.out with e2 | ⟨e2, _⟩
    · rw [hq] at e2; cases e2
    · rw [hq] at e2; cases e2; exact Nat.le_of_eq hz'.out.symm
  have ha6 : ∀ q, blk a6 = some q → w.heap.size + 2 ≤ q := fun q hq => by
    rcases hb6'.out with e | ⟨e, _⟩
    · exact ha5 q (e ▸ hq)
    · rw [hq] at e; cases e; omega
  have k6 : Keeps Nil w w6 := (hwW'.out.trans kA'.out).trans' hk6'.out (fun j hj => .inr (by have := ha5 j hj; omega))
  have kF : Keeps (fun j => j = rb ∨ j = w.heap.size) w6 ((((w6.setCell ⟨rb, 1, none⟩ (.slice a6 (i + (l.length - (i + 1))) cap6)).setCell ⟨w.heap.size, 0, none⟩ (.int .i64 kx)).setCell ⟨w.heap.size, 1, none⟩ (.int .u64 sx)).setCell ⟨w.heap.size, 2, none⟩ (.bool s)) :=
    ((((Keeps.refl _ w6).setCell (.inl (.inl rfl)) _).setCell (.inl (.inr rfl)) _).setCell (.inl (.inr rfl)) _).setCell (.inl (.inr rfl)) _
  refine ⟨rfl, a6, cap6, ⟨?_, ?_, fun e => by have := ha6 rb e; omega⟩, (k6.mono (fun _ h => h.elim)).trans' kF (fun j hj => hj.elim (fun e => .inl (.inl e)) (fun e => .inr (by omega))), fun q hq => by have := ha6 q hq; omega⟩
  · have hne : rb ≠ w.heap.size := by omega
    rw [heap_setCell_other hne, heap_setCell_other hne, heap_setCell_other hne, heap_setCell_same (k6.heap h'.out.head (fun h => h)), hlen']
    rfl
  · have r6 : RecRow entC 3 w6 54 a6 cap6 (l.eraseIdx i) := by
      unfold RecRow
      rw [hlen', List.eraseIdx_eq_take_drop_succ, recs_app]
      exact hr6'.out
    exact r6.keeps kF (fun q hq e => by have := ha6 q hq; omega)

end Go.Proofs.Ytnickcjkipemmaa
