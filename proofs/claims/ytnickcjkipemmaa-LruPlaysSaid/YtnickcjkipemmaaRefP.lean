/- the reference's cache: the walks of first, Get, Drop, Put -/
import Derived.Test.YtnickcjkipemmaaRefW
namespace Go.Proofs.Ytnickcjkipemmaa
open Go.RowKit

attribute [local go_sem ↓] Go.wp_at_zero Go.wp_at_succ

variable {w : World} {rb cap : Nat} {most : Int} {a : Option Addr} {l : List Ent} {R : Nat → Prop}
theorem routX (h : RefX w rb most l R) {i : Nat} {x : Ent} (hx : l[i]? = some x) (hlen : l.length ≤ 1000000) :
    Calls Try.prog 47 #[.pointer (some ⟨rb, 0, none⟩), .int .i64 i] w (ROut w rb most R (entV x) (l.eraseIdx i)) := by
  obtain ⟨a, cap, hB, rfl⟩ := h
  refine (rout_any hB hx hlen).mono ?_
  rintro e w' ⟨rfl, a', cap', h1, h2, h3⟩
  refine ⟨rfl, _, ⟨a', cap', h1, rfl⟩, h2, ?_⟩
  rintro k (rfl | hk)
  · exact .inl (.inl rfl)
  · exact .inr (h3 k hk)

theorem heap_alloc_size' (w : World) (o : Obj) : (w.alloc o).heap.size = w.heap.size + 1 := by simp
theorem row_one {w : World} {g : Nat} {x : Ent} (h : w.heap[g]? = some (.cells (entC x).toArray 54)) : RowAt w 54 3 (some ⟨g, 0, none⟩) 1 1 (entC x) :=
  ⟨rfl, .inr ⟨g, 1, _, rfl, Nat.zero_le _, h, Nat.le_refl _, by decide, rfl, rfl⟩⟩

set_option maxHeartbeats 4000000 in
set_option maxRecDepth 100000 in
theorem rfirst_any (h : RefB w rb most a cap l) (x : Ent) (hlen : l.length ≤ 1000000) :
    Calls Try.prog 48 #[.pointer (some ⟨rb, 0, none⟩), entV x] w fun e w' => e = .returned (.tuple #[]) ∧ ∃ a' cap', RefB w' rb most a' cap' (x :: l) ∧ Keeps (rown rb a) w w' ∧ (∀ g, blk a' = some g → w.heap.size ≤ g) := by
  obtain ⟨i54, hi5, hz0, hz1, hz2⟩ := info_parts info54
  obtain ⟨kx, vx, dx⟩ := x
  have h' := Lib.hid h
  have hrl := lt_of_heap h.head
  have hb1 := Lib.hid (show 1 + l.length ≤ maxLen by unfold maxLen; omega)
  have hb2 := Lib.hid (show (1 + l.length) * 24 ≤ 140737488355328 by omega)
  have kA := Lib.hid (((Keeps.refl Nil w).alloc (.cells #[.int .i64 kx, .int .u64 vx, .bool dx] 54)).alloc (.cells #[.int .i64 kx, .int .u64 vx, .bool dx] 54))
  have hh := kA.out.heap h.head (fun h => h)
  have hrow := Lib.hid (row_one (x := ⟨kx, vx, dx⟩) (heap_alloc_new (w.alloc (.cells #[.int .i64 kx, .int .u64 vx, .bool dx] 54)) (.cells #[.int .i64 kx, .int .u64 vx, .bool dx] 54)))
  rw [heap_alloc_size'] at hrow
  have c1 := cell_of_heap hh 1
  have hsrc := Lib.hid (show Src ((w.alloc (.cells #[.int .i64 kx, .int .u64 vx, .bool dx] 54)).alloc (.cells #[.int .i64 kx, .int .u64 vx, .bool dx] 54)) a 3 l.length (recs entC l) from (RowAt.src h.row).keeps kA.out)
  have hnc := Lib.hid h.row.nocap
  have hh' := Lib.hid hh
  clear h hh
  simp only [entV]
  go_enter Try.func48, Try.ntmps48
  go_wp2_with (at_builtin; refine wpList_app _ rfl (.tmp 8) (.tmp 12) 51 rfl 54 i54 _ 3 24 Try.underlying51 hi5 hz0 hz1 hz2 rfl (by decide) (some ⟨w.heap.size + 1, 0, none⟩) 1 1 [.int .i64 kx, .int .u64 vx, .bool dx] rfl a l.length cap (recs entC l) rfl ?_ hrow.out hsrc.out hnc.out (entR_one _) hb1.out hb2.out; intro a5 cap5 w5 hr5 hk5 hb5; have y2 := hk5.heap hh'.out (fun e => by simp [blk] at e; omega); have g3 := frozen_of_heap y2 1; have rr := cell_of_heap y2 1; have sl := lt_of_heap y2; have hr5' := Lib.hid hr5; have hk5' := Lib.hid hk5; have hb5' := Lib.hid hb5; have y2' := Lib.hid y2; clear hr5 hk5 hb5 y2 c1)
  go_end0
  have ha5 : ∀ q, blk a5 = some q → w.heap.size + 1 ≤ q := fun q hq => by
    rcases hb5'.out with e | ⟨e, _⟩
    · rw [hq] at e
      have : q = w.heap.size + 1 := by simpa [blk] using e
      omega
    · rw [hq] at e
      have : q = w.heap.size + 1 + 1 := by simpa using e
      omega
  have k5 : Keeps Nil w w5 := kA.out.trans' hk5'.out (fun j hj => .inr (by (have : w.heap.size + 1 = j := (by simpa [blk] using hj)); omega))
  have kF : Keeps (· = rb) w5 (w5.setCell ⟨rb, 1, none⟩ (.slice a5 (1 + l.length) cap5)) := (Keeps.refl (· = rb) w5).setCell (.inl rfl) _
  refine ⟨rfl, a5, cap5, ⟨?_, ?_, fun e => by have := ha5 rb e; omega⟩, (k5.mono (fun _ h => h.elim)).trans' kF (fun j hj => .inl (.inl hj)), fun q hq => by have := ha5 q hq; omega⟩
  · rw [heap_setCell_same y2'.out, List.length_cons, Nat.add_comm]
    rfl
  · have r6 : RecRow entC 3 w5 54 a5 cap5 (⟨kx, vx, dx⟩ :: l) := by
      unfold RecRow
      rw [List.length_cons, Nat.add_comm]
      exact hr5'.out
    exact r6.keeps kF (fun q hq e => by have := ha5 q hq; omega)
theorem rfirstX (h : RefX w rb most l R) (x : Ent) (hlen : l.length ≤ 1000000) :
    Calls Try.prog 48 #[.pointer (some ⟨rb, 0, none⟩), entV x] w (ROut w rb most R (.tuple #[]) (x :: l)) := by
  obtain ⟨a, cap, hB, rfl⟩ := h
  refine (rfirst_any hB x hlen).mono ?_
  rintro e w' ⟨rfl, a', cap', h1, h2, h3⟩
  refine ⟨rfl, _, ⟨a', cap', h1, rfl⟩, h2, ?_⟩
  rintro k (rfl | hk)
  · exact .inl (.inl rfl)
  · exact .inr (h3 k hk)

set_option maxHeartbeats 4000000 in
theorem rget_in (h : RefX w rb most l R) {k : Int} {j : Nat} {x : Ent} (hx : l[j]? = some x) (hi : lidx k l 0 = (j : Int)) (hlen : l.length ≤ 1000000) :
    Calls Try.prog 23 #[.pointer (some ⟨rb, 0, none⟩), .int .i64 k] w (ROut w rb most R (.tuple #[.int .u64 x.val, .bool true]) (x :: l.eraseIdx j)) := by
  have hF := rfindX h k hlen
  rw [hi] at hF
  have hF' := Lib.hid hF
  have hO := Lib.hid (routX h hx hlen)
  have hel : (l.eraseIdx j).length ≤ 1000000 := Nat.le_trans (List.length_eraseIdx_le l j) hlen
  obtain ⟨kx, vx, dx⟩ := x
  have d1 : decide ((j : Int) < 0) = false := decide_eq_false (by omega)
  clear h hx hi hF
  go_enter Try.func23, Try.ntmps23
  go_wp2_with fail
  refine (hF'.out).mono ?_
  rintro e w0 ⟨rfl, rfl⟩
  go_wp2_with fail
  refine (hO.out).mono ?_
  rintro e w1 ⟨rfl, R1, hR1, hk1, hg1⟩
  simp only [entV]
  have kA := (Keeps.refl Nil w1).alloc (.cells #[.int .i64 kx, .int .u64 vx, .bool dx] 54)
  have hR2 := hR1.nil kA
  have hFi := Lib.hid (rfirstX hR2 ⟨kx, vx, dx⟩ hel)
  have hcell := heap_alloc_new w1 (.cells #[.int .i64 kx, .int .u64 vx, .bool dx] 54)
  have hcell' := Lib.hid hcell
  have hnR := Lib.hid (show ¬ R1 w1.heap.size from fun e => by have := hR1.lt e; omega)
  have kA' := Lib.hid kA
  have hk1' := Lib.hid hk1
  have hg1' := Lib.hid hg1
  clear hR1 hk1 hg1 hR2 hcell kA
  simp only [entV] at hFi
  go_wp2_with fail
  refine (hFi.out).mono ?_
  rintro e w2 ⟨rfl, R2, hR2, hk2, hg2⟩
  have hv := hk2.heap hcell'.out hnR.out
  have c1 := cell_of_heap hv 1
  simp at c1
  have hR2' := Lib.hid hR2
  have hk2' := Lib.hid hk2
  have hg2' := Lib.hid hg2
  clear hR2 hk2 hg2 hv
  go_wp2_with fail
  go_ret2
  exact ROut.trans (hk1'.out.trans (kA'.out.mono (fun _ h => h.elim))) hg1'.out ⟨rfl, R2, hR2'.out, hk2'.out, hg2'.out⟩
set_option maxHeartbeats 4000000 in
theorem rget_out (h : RefX w rb most l R) {k : Int} (hi : lidx k l 0 = -1) (hlen : l.length ≤ 1000000) :
    Calls Try.prog 23 #[.pointer (some ⟨rb, 0, none⟩), .int .i64 k] w (ROut w rb most R (.tuple #[.int .u64 0, .bool false]) l) := by
  have hF := rfindX h k hlen
  rw [hi] at hF
  have hF' := Lib.hid hF
  have h' := Lib.hid h
  clear h hi hF
  go_enter Try.func23, Try.ntmps23
  go_wp2_with fail
  refine (hF'.out).mono ?_
  rintro e w0 ⟨rfl, rfl⟩
  go_wp2_with fail
  go_ret2
  exact ⟨rfl, R, h'.out, Keeps.refl _ _, fun k hk => .inl hk⟩
theorem rgetX (h : RefX w rb most l R) (k : Int) (hlen : l.length ≤ 1000000) :
    Calls Try.prog 23 #[.pointer (some ⟨rb, 0, none⟩), .int .i64 k] w (ROut w rb most R (.tuple #[.int .u64 (lval k l), .bool (lhas k l)]) (lfront k l)) := by
  rcases lfidx k l with ⟨h1, h2⟩ | ⟨j, x, h1, h2, h3, h4, h5⟩
  · have := rget_out h h2 hlen
    unfold lval lhas lfront
    rw [h1]; exact this
  · have := rget_in h h1 h4 hlen
    unfold lval lhas lfront
    rw [h3]; simp only; rw [h5]; exact this

set_option maxHeartbeats 4000000 in
theorem rdrop_in (h : RefX w rb most l R) {k : Int} {j : Nat} {x : Ent} (hx : l[j]? = some x) (hi : lidx k l 0 = (j : Int)) (hlen : l.length ≤ 1000000) :
    Calls Try.prog 26 #[.pointer (some ⟨rb, 0, none⟩), .int .i64 k] w (ROut w rb most R (.tuple #[entV x, .bool true]) (l.eraseIdx j)) := by
  have kA := Lib.hid ((Keeps.refl Nil w).alloc (.cells #[.int .i64 0, .int .u64 0, .bool false] 54))
  have hA := Lib.hid (heap_alloc_new w (.cells #[.int .i64 0, .int .u64 0, .bool false] 54))
  have hF := rfindX (h.nil kA.out) k hlen
  rw [hi] at hF
  have hF' := Lib.hid hF
  have hO := Lib.hid (routX (h.nil kA.out) hx hlen)
  have hnR := Lib.hid (show ¬ R w.heap.size from fun e => by have := h.lt e; omega)
  obtain ⟨kx, vx, dx⟩ := x
  have d1 : decide ((j : Int) < 0) = false := decide_eq_false (by omega)
  clear h hx hi hF
  go_enter Try.func26, Try.ntmps26
  go_wp2_with fail
  refine (hF'.out).mono ?_
  rintro e w0 ⟨rfl, rfl⟩
  go_wp2_with fail
  refine (hO.out).mono ?_
  rintro e w1 ⟨rfl, R1, hR1, hk1, hg1⟩
  simp only [entV]
  have hv := hk1.heap hA.out hnR.out
  have c0 := cell_of_heap hv 0
  have c1 := cell_of_heap hv 1
  have c2 := cell_of_heap hv 2
  simp at c0 c1 c2
  have f0 := frozen_of_heap hv 0
  have f1 := frozen_of_heap hv 1
  have f2 := frozen_of_heap hv 2
  have hl := lt_of_heap hv
  have hn1 := Lib.hid (show ¬ R1 w.heap.size from fun e => by
    rcases hg1 _ e with h1 | h1
    · exact hnR.out h1
    · simp at h1; omega)
  have hR1' := Lib.hid hR1
  have hk1' := Lib.hid hk1
  have hg1' := Lib.hid hg1
  clear hR1 hk1 hg1 hv
  go_wp2_with fail
  refine bodyPost_ret (v := .tuple #[.agg #[.int .i64 kx, .int .u64 vx, .bool dx], .bool true]) (by simp [results, Try.results26, go_sem, c0, c1, c2]) rfl ?_
  have kE : Keeps (· = w.heap.size) w1 (((w1.setCell ⟨w.heap.size, 0, none⟩ (.int .i64 kx)).setCell ⟨w.heap.size, 1, none⟩ (.int .u64 vx)).setCell ⟨w.heap.size, 2, none⟩ (.bool dx)) := (((Keeps.refl (· = w.heap.size) w1).setCell (.inl rfl) _).setCell (.inl rfl) _).setCell (.inl rfl) _
  exact ⟨rfl, R1, hR1'.out.keeps kE (fun k hk e => hn1.out (e ▸ hk)), ((kA.out.mono (fun _ h => h.elim)).trans hk1'.out).trans' kE (fun j hj => .inr (by omega)), fun k hk => (hg1'.out k hk).elim .inl (fun h => .inr (by simp at h; omega))⟩
set_option maxHeartbeats 4000000 in
theorem rdrop_out (h : RefX w rb most l R) {k : Int} (hi : lidx k l 0 = -1) (hlen : l.length ≤ 1000000) :
    Calls Try.prog 26 #[.pointer (some ⟨rb, 0, none⟩), .int .i64 k] w (ROut w rb most R (.tuple #[entV ent0, .bool false]) l) := by
  have kA := Lib.hid ((Keeps.refl Nil w).alloc (.cells #[.int .i64 0, .int .u64 0, .bool false] 54))
  have hF := rfindX (h.nil kA.out) k hlen
  rw [hi] at hF
  have hF' := Lib.hid hF
  have h' := Lib.hid h
  clear h hi hF
  go_enter Try.func26, Try.ntmps26
  go_wp2_with fail
  refine (hF'.out).mono ?_
  rintro e w0 ⟨rfl, rfl⟩
  go_wp2_with fail
  refine bodyPost_ret (v := .tuple #[.agg #[.int .i64 0, .int .u64 0, .bool false], .bool false]) (by simp [results, Try.results26, go_sem]) rfl ?_
  have kE : Keeps Nil w (w.alloc (.cells #[.int .i64 0, .int .u64 0, .bool false] 54)) := kA.out
  first
  | exact ⟨rfl, R, h'.out.nil kE, kE.mono (fun _ h => h.elim), fun k hk => .inl hk⟩
  | exact ⟨rfl, R, h'.out.nil (((kE.setCell (.inr (Nat.le_refl _)) _).setCell (.inr (Nat.le_refl _)) _).setCell (.inr (Nat.le_refl _)) _), (((kE.setCell (.inr (Nat.le_refl _)) _).setCell (.inr (Nat.le_refl _)) _).setCell (.inr (Nat.le_refl _)) _).mono (fun _ h => h.elim), fun k hk => .inl hk⟩
theorem ldel_none {k : Int} : ∀ {l : List Ent}, lget k l = none → ldel k l = l
  | [], _ => rfl
  | x :: l, h => by
    rw [lget] at h
    split at h
    · cases h
    · rename_i hk
      rw [ldel, if_neg hk, ldel_none h]
theorem rdropX (h : RefX w rb most l R) (k : Int) (hlen : l.length ≤ 1000000) :
    Calls Try.prog 26 #[.pointer (some ⟨rb, 0, none⟩), .int .i64 k] w (ROut w rb most R (.tuple #[entV (lent k l), .bool (lhas k l)]) (ldel k l)) := by
  rcases lfidx k l with ⟨h1, h2⟩ | ⟨j, x, h1, h2, h3, h4, h5⟩
  · have := rdrop_out h h2 hlen
    rw [ldel_none h1]
    unfold lent lhas
    rw [h1]; exact this
  · have := rdrop_in h h1 h4 hlen
    unfold lent lhas
    rw [h3, h5]; exact this
end Go.Proofs.Ytnickcjkipemmaa
