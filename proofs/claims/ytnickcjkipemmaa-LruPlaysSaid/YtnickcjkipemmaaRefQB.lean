/- the reference's cache: the walk of Put; same, rows of the law -/
import Derived.Test.YtnickcjkipemmaaRefQA
namespace Go.Proofs.Ytnickcjkipemmaa
open Go.RowKit

attribute [local go_sem ↓] Go.wp_at_zero Go.wp_at_succ

variable {w : World} {rb cap : Nat} {most : Int} {a : Option Addr} {l : List Ent} {R : Nat → Prop}
set_option maxHeartbeats 8000000 in
theorem rput_full (h : RefX w rb most l R) (e : Ent) (hi : lidx e.key l 0 = -1) (hf : (l.length : Int) = most) (hm : 1 ≤ most) (hlen : l.length < 1000000) :
    Calls Try.prog 21 #[.pointer (some ⟨rb, 0, none⟩), .agg #[.int .i64 e.key, .int .u64 e.val, .bool e.dirty]] w (ROut w rb most R (.tuple #[entV (l.getLastD ent0), .bool true]) (e :: l.dropLast)) := by
  obtain ⟨j, hj⟩ : ∃ j, l.length = j + 1 := ⟨l.length - 1, by omega⟩
  obtain ⟨x, hx⟩ : ∃ x, l[j]? = some x := ⟨l[j]'(by omega), List.getElem?_eq_getElem _⟩
  have hlast : l.getLastD ent0 = x := by
    rw [List.getLastD_eq_getLast?, List.getLast?_eq_getElem?, hj, Nat.add_sub_cancel, hx]; rfl
  have hdl : l.dropLast = l.eraseIdx j := by
    rw [List.dropLast_eq_take, List.eraseIdx_eq_take_drop_succ, hj, Nat.add_sub_cancel, List.drop_eq_nil_of_le (by omega), List.append_nil]
  rw [hlast, hdl]
  obtain ⟨ke, ve, de⟩ := e
  simp only at hi
  have kA := Lib.hid ((((Keeps.refl Nil w).alloc (.cells #[.int .i64 ke, .int .u64 ve, .bool de] 54)).alloc (.cells #[.int .i64 0, .int .u64 0, .bool false] 54)).alloc (.cells #[.int .i64 0, .int .u64 0, .bool false] 54))
  have hA := Lib.hid (heap_alloc_old (o' := .cells #[.int .i64 0, .int .u64 0, .bool false] 54) (heap_alloc_old (o' := .cells #[.int .i64 0, .int .u64 0, .bool false] 54) (heap_alloc_new w (.cells #[.int .i64 ke, .int .u64 ve, .bool de] 54))))
  have hB := heap_alloc_old (o' := .cells #[.int .i64 0, .int .u64 0, .bool false] 54) (heap_alloc_new (w.alloc (.cells #[.int .i64 ke, .int .u64 ve, .bool de] 54)) (.cells #[.int .i64 0, .int .u64 0, .bool false] 54))
  have hC := heap_alloc_new ((w.alloc (.cells #[.int .i64 ke, .int .u64 ve, .bool de] 54)).alloc (.cells #[.int .i64 0, .int .u64 0, .bool false] 54)) (.cells #[.int .i64 0, .int .u64 0, .bool false] 54)
  rw [heap_alloc_size'] at hB
  rw [heap_alloc_size', heap_alloc_size'] at hC
  have hB' := Lib.hid hB
  have hC' := Lib.hid hC
  have hF := Lib.hid (show ∀ W, Keeps Nil w W → Calls Try.prog 46 #[.pointer (some ⟨rb, 0, none⟩), .int .i64 ke] W fun e w' => e = .returned (.int .i64 (-1)) ∧ W = w' from fun W hW => by have := rfindX (h.nil hW) ke (by omega); rwa [hi] at this)
  have hO := Lib.hid (show ∀ W, Keeps Nil w W → Calls Try.prog 47 #[.pointer (some ⟨rb, 0, none⟩), .int .i64 j] W (ROut W rb most R (entV x) (l.eraseIdx j)) from fun W hW => routX (h.nil hW) hx (by omega))
  have hel : (l.eraseIdx j).length ≤ 1000000 := Nat.le_trans (List.length_eraseIdx_le l j) (by omega)
  have hnA := Lib.hid (show ∀ q, R q → q < w.heap.size from fun q hq => h.lt hq)
  obtain ⟨aa, cc, hBr, hRr⟩ := h
  have hh := kA.out.heap hBr.head (fun h => h)
  have m0 := cell_of_heap hh 0
  have m1 := cell_of_heap hh 1
  simp at m0 m1
  have hh' := Lib.hid hh
  have hRb := Lib.hid (show ∀ W, Keeps Nil w W → W.cell? ⟨rb, 1, none⟩ = some (.slice aa (j + 1) cc) from fun W hW => by have := cell_of_heap (hW.heap hBr.head (fun h => h)) 1; rw [hj] at this; exact this)
  rw [hj] at m1 hf
  have e1 : (((j + 1 : Nat) : Int) == most) = true := by simpa using hf
  obtain ⟨n, hn⟩ : ∃ n, j + 1 = n := ⟨_, rfl⟩
  rw [hn] at m1 e1 hRb
  have y1 : wrap64 ((n : Int) - 1) = (j : Int) := by unfold wrap64; omega
  obtain ⟨kx, vx, dx⟩ := x
  simp only [entV] at hO ⊢
  clear hBr hRr hh hB hC hi hf hx hlast hdl hm hn hj hlen
  go_enter Try.func21, Try.ntmps21
  go_wp2_with fail
  refine (hF.out _ (by exact ((Keeps.refl Nil w).alloc _).alloc _)).mono ?_
  rintro e w0 ⟨rfl, rfl⟩
  go_wp2_with fail
  go_quiet (fail)
  go_wp2_with fail
  refine (hO.out _ (by exact kA.out.drewN _)).mono ?_
  rintro e w1 ⟨rfl, R1, hR1, hk1, hg1⟩
  have hk1s := hk1.size
  have hv1 := hk1.heap (show _ = some (.cells #[.int .i64 0, .int .u64 0, .bool false] 54) from hC'.out) (fun e => by have := hnA.out _ e; omega)
  have ha1 := hk1.heap (show _ = some (.cells #[.int .i64 ke, .int .u64 ve, .bool de] 54) from hA.out) (fun e => by have := hnA.out _ e; omega)
  have hr1 := hk1.heap (show _ = some (.cells #[.int .i64 0, .int .u64 0, .bool false] 54) from hB'.out) (fun e => by have := hnA.out _ e; omega)
  have u0 := cell_of_heap ha1 0
  have u1 := cell_of_heap ha1 1
  have u2 := cell_of_heap ha1 2
  have c0 := cell_of_heap hv1 0
  have c1 := cell_of_heap hv1 1
  have c2 := cell_of_heap hv1 2
  simp at u0 u1 u2 c0 c1 c2
  have q0 := frozen_of_heap hv1 0
  have q1 := frozen_of_heap hv1 1
  have q2 := frozen_of_heap hv1 2
  have hl1 := lt_of_heap hv1
  have hg1' := Lib.hid (show ∀ q, R1 q → R q ∨ w.heap.size + 3 ≤ q from fun q hq => (hg1 q hq).elim .inl (fun h => .inr (Nat.le_trans (by simp) h)))
  have kE : Keeps (· = w.heap.size + 2) w1 (((w1.setCell ⟨w.heap.size + 2, 0, none⟩ (.int .i64 kx)).setCell ⟨w.heap.size + 2, 1, none⟩ (.int .u64 vx)).setCell ⟨w.heap.size + 2, 2, none⟩ (.bool dx)) := (((Keeps.refl (· = w.heap.size + 2) w1).setCell (.inl rfl) _).setCell (.inl rfl) _).setCell (.inl rfl) _
  have hfi := Lib.hid (show ∀ W, Keeps (· = w.heap.size + 2) w1 W → Calls Try.prog 48 #[.pointer (some ⟨rb, 0, none⟩), .agg #[.int .i64 ke, .int .u64 ve, .bool de]] W (ROut W rb most R1 (.tuple #[]) (⟨ke, ve, de⟩ :: l.eraseIdx j)) from fun W hW => rfirstX (hR1.keeps hW (fun q hq e => (hg1'.out q hq).elim (fun h => by have := hnA.out q h; omega) (fun h => by omega))) ⟨ke, ve, de⟩ hel)
  have hv2 := heap_setCell_same (heap_setCell_same (heap_setCell_same hv1 0 (.int .i64 kx)) 1 (.int .u64 vx)) 2 (.bool dx)
  have hr1b := kE.heap hr1 (by omega)
  have hv2' := Lib.hid hv2
  have hr1' := Lib.hid hr1b
  have kE' := Lib.hid kE
  have kW1 := Lib.hid ((kA.out.drewN _).mono (T := R) (fun _ h => h.elim) |>.trans hk1)
  clear hR1 hk1 hg1 hv1 ha1 hr1 m0 m1 kE hv2 hr1b
  go_wp2_with fail
  refine (hfi.out _ (by exact kE'.out)).mono ?_
  rintro e w2 ⟨rfl, R2, hR2, hk2, hg2⟩
  have hn1 : ∀ q, R1 q → q < w.heap.size ∨ w.heap.size + 3 ≤ q := fun q hq => (hg1'.out q hq).elim (fun h => .inl (hnA.out q h)) .inr
  have hv3 := hk2.heap hv2'.out (fun e => by have := hn1 _ e; omega)
  have hr3 := hk2.heap hr1'.out (fun e => by have := hn1 _ e; omega)
  have c0 := cell_of_heap hv3 0
  have c1 := cell_of_heap hv3 1
  have c2 := cell_of_heap hv3 2
  have r0 := cell_of_heap hr3 0
  have r1 := cell_of_heap hr3 1
  have r2 := cell_of_heap hr3 2
  simp at c0 c1 c2 r0 r1 r2
  have g0 := frozen_of_heap hr3 0
  have g1 := frozen_of_heap hr3 1
  have g2 := frozen_of_heap hr3 2
  have hl2 := lt_of_heap hr3
  have hR2' := Lib.hid hR2
  have hk2' := Lib.hid hk2
  have hg2' := Lib.hid (show ∀ q, R2 q → R1 q ∨ w.heap.size + 3 ≤ q from fun q hq => (hg2 q hq).elim .inl (fun h => .inr (by simp [World.setCell] at h; omega)))
  have hn1' := Lib.hid hn1
  clear hR2 hk2 hg2 hr3 hv3 hn1 u0 u1 u2 q0 q1 q2
  go_wp2_with fail
  refine bodyPost_ret (v := .tuple #[.agg #[.int .i64 kx, .int .u64 vx, .bool dx], .bool true]) (by simp [results, Try.results21, go_sem, r0, r1, r2]) rfl ?_
  have kF : Keeps (· = w.heap.size + 1) w2 (((w2.setCell ⟨w.heap.size + 1, 0, none⟩ (.int .i64 kx)).setCell ⟨w.heap.size + 1, 1, none⟩ (.int .u64 vx)).setCell ⟨w.heap.size + 1, 2, none⟩ (.bool dx)) := (((Keeps.refl (· = w.heap.size + 1) w2).setCell (.inl rfl) _).setCell (.inl rfl) _).setCell (.inl rfl) _
  exact ⟨rfl, R2, hR2'.out.keeps kF (fun q hq e => (hg2'.out q hq).elim (fun h => by have := hn1'.out q h; omega) (fun h => by omega)), ((kW1.out.trans' kE'.out (fun q hq => .inr (by omega))).trans' hk2'.out (fun q hq => (hg1'.out q hq).elim .inl (fun h => .inr (by omega)))).trans' kF (fun q hq => .inr (by omega)), fun q hq => (hg2'.out q hq).elim (fun h => (hg1'.out q h).elim .inl (fun h => .inr (by omega))) (fun h => .inr (by omega))⟩
theorem rputX (h : RefX w rb most l R) (e : Ent) (hm : 1 ≤ most) (hlen : l.length < 1000000) :
    Calls Try.prog 21 #[.pointer (some ⟨rb, 0, none⟩), .agg #[.int .i64 e.key, .int .u64 e.val, .bool e.dirty]] w (ROut w rb most R (.tuple #[entV (lgone most e l), .bool (lfull most e l)]) (lput most e l)) := by
  rcases lfidx e.key l with ⟨h1, h2⟩ | ⟨j, x, h1, h2, h3, h4, h5⟩
  · unfold lgone lfull lput
    rw [h1]
    simp only
    by_cases hf : (l.length : Int) = most
    · rw [if_pos hf, if_pos hf, decide_eq_true hf]
      exact rput_full h e h2 hf hm hlen
    · rw [if_neg hf, if_neg hf, decide_eq_false hf]
      exact rput_room h e h2 hf hlen
  · unfold lgone lfull lput
    rw [h3]
    simp only
    rw [h5, Bool.or_comm]
    exact rput_in h e h1 h4 (by omega)
end Go.Proofs.Ytnickcjkipemmaa
