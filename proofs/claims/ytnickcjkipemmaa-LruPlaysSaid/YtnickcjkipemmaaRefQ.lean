/- the reference's cache: the walk of Put; same, rows of the law -/
import Derived.Test.YtnickcjkipemmaaRefP
namespace Go.Proofs.Ytnickcjkipemmaa
open Go.RowKit

attribute [local go_sem ↓] Go.wp_at_zero Go.wp_at_succ

variable {w : World} {rb cap : Nat} {most : Int} {a : Option Addr} {l : List Ent} {R : Nat → Prop}
set_option maxHeartbeats 8000000 in
theorem rput_in (h : RefX w rb most l R) (e : Ent) {j : Nat} {x : Ent} (hx : l[j]? = some x) (hi : lidx e.key l 0 = (j : Int)) (hlen : l.length ≤ 1000000) :
    Calls Try.prog 21 #[.pointer (some ⟨rb, 0, none⟩), .agg #[.int .i64 e.key, .int .u64 e.val, .bool e.dirty]] w (ROut w rb most R (.tuple #[entV ent0, .bool false]) (⟨e.key, e.val, e.dirty || x.dirty⟩ :: l.eraseIdx j)) := by
  obtain ⟨ke, ve, de⟩ := e
  simp only at hi
  simp only [entV, ent0]
  have kA := Lib.hid (((Keeps.refl Nil w).alloc (.cells #[.int .i64 ke, .int .u64 ve, .bool de] 54)).alloc (.cells #[.int .i64 0, .int .u64 0, .bool false] 54))
  have hA := Lib.hid (heap_alloc_old (o' := .cells #[.int .i64 0, .int .u64 0, .bool false] 54) (heap_alloc_new w (.cells #[.int .i64 ke, .int .u64 ve, .bool de] 54)))
  have hB := heap_alloc_new (w.alloc (.cells #[.int .i64 ke, .int .u64 ve, .bool de] 54)) (.cells #[.int .i64 0, .int .u64 0, .bool false] 54)
  rw [heap_alloc_size'] at hB
  have hB' := Lib.hid hB
  have hF := rfindX (h.nil kA.out) ke hlen
  rw [hi] at hF
  have hF' := Lib.hid hF
  have hO := Lib.hid (routX (h.nil kA.out) hx hlen)
  have hel : (l.eraseIdx j).length ≤ 1000000 := Nat.le_trans (List.length_eraseIdx_le l j) hlen
  have hnA := Lib.hid (show ∀ q, R q → q < w.heap.size from fun q hq => h.lt hq)
  obtain ⟨kx, vx, dx⟩ := x
  have d1 : decide ((0 : Int) ≤ (j : Int)) = true := decide_eq_true (by omega)
  obtain ⟨dd, hdd⟩ : ∃ dd, (de || dx) = dd := ⟨_, rfl⟩
  show Calls _ _ _ _ (ROut _ _ _ _ _ (⟨ke, ve, de || dx⟩ :: l.eraseIdx j))
  rw [hdd]
  clear h hx hi hF hB
  go_enter Try.func21, Try.ntmps21
  go_wp2_with fail
  refine (hF'.out).mono ?_
  rintro e w0 ⟨rfl, rfl⟩
  go_wp2_with fail
  refine (hO.out).mono ?_
  rintro e w1 ⟨rfl, R1, hR1, hk1, hg1⟩
  simp only [entV]
  have hs1 := hk1.size
  simp at hs1
  have hv := hk1.heap hA.out (fun e => by have := hnA.out _ e; omega)
  have hr := hk1.heap hB'.out (fun e => by have := hnA.out _ e; omega)
  have hv' := Lib.hid hv
  have hr' := Lib.hid hr
  have c0 := cell_of_heap hv 0
  have c1 := cell_of_heap hv 1
  have c2 := cell_of_heap hv 2
  simp at c0 c1 c2
  have f2 := frozen_of_heap hv 2
  have hl := lt_of_heap hv
  have hn1 := Lib.hid (show ∀ q, R1 q → q < w.heap.size ∨ w.heap.size + 2 ≤ q from fun q hq => (hg1 q hq).elim (fun h => .inl (hnA.out q h)) (fun h => .inr (by simp at h; omega)))
  have hx1 := Lib.hid (show ∀ q, R1 q → q < w1.heap.size from fun q hq => hR1.lt hq)
  -- the world in which first is called
  have kE : Keeps (· = w.heap.size) w1 ((w1.alloc (.cells #[.int .i64 kx, .int .u64 vx, .bool dx] 54)).setCell ⟨w.heap.size, 2, none⟩ (.bool dd)) := ((Keeps.refl (· = w.heap.size) w1).alloc _).setCell (.inl rfl) _
  have kE2 : Keeps (· = w.heap.size) w1 ((w1.setCell ⟨w.heap.size, 2, none⟩ (.bool dd)).alloc (.cells #[.int .i64 kx, .int .u64 vx, .bool dx] 54)) := ((Keeps.refl (· = w.heap.size) w1).setCell (.inl rfl) _).alloc _
  have hfi := Lib.hid (show ∀ W, Keeps (· = w.heap.size) w1 W → Calls Try.prog 48 #[.pointer (some ⟨rb, 0, none⟩), .agg #[.int .i64 ke, .int .u64 ve, .bool dd]] W (ROut W rb most R1 (.tuple #[]) (⟨ke, ve, dd⟩ :: l.eraseIdx j)) from fun W hW =>
    rfirstX (hR1.keeps hW (fun q hq e => by have := hn1.out q hq; omega)) ⟨ke, ve, dd⟩ hel)
  have kE' := Lib.hid kE
  have kE2' := Lib.hid kE2
  have hk1' := Lib.hid hk1
  have hg1' := Lib.hid hg1
  clear hR1 hk1 hg1 hv hr kE kE2
  cases de
  all_goals
    simp only [Bool.false_or, Bool.true_or] at hdd
    subst hdd
    go_wp2_with fail
    refine (hfi.out _ (by first | exact kE'.out | exact kE2'.out)).mono ?_
    rintro e w2 ⟨rfl, R2, hR2, hk2, hg2⟩
    have kW : Keeps (fun q => q = w.heap.size ∨ R1 q) w1 w2 := Keeps.trans' (S := fun q => q = w.heap.size ∨ R1 q) ((by first | exact kE'.out | exact kE2'.out : Keeps (· = w.heap.size) w1 _).mono (fun _ h => .inl h)) hk2 (fun q hq => .inl (.inr hq))
    have hr2 := kW.heap hr'.out (fun e => e.elim (fun e => by omega) (fun e => by have := hn1.out _ e; omega))
    have r0 := cell_of_heap hr2 0
    have r1 := cell_of_heap hr2 1
    have r2 := cell_of_heap hr2 2
    simp at r0 r1 r2
    have g0 := frozen_of_heap hr2 0
    have g1 := frozen_of_heap hr2 1
    have g2 := frozen_of_heap hr2 2
    have hl2 := lt_of_heap hr2
    have hR2' := Lib.hid hR2
    have kW' := Lib.hid kW
    have hg2' := Lib.hid (show ∀ q, R2 q → R1 q ∨ w.heap.size + 2 ≤ q from fun q hq => (hg2 q hq).elim .inl (fun h => .inr (by have h3 : w1.heap.size ≤ q := Nat.le_trans (by simp [World.setCell]) h; omega)))
    clear hR2 hk2 hg2 hr2 kW
    go_wp2_with fail
    refine bodyPost_ret (v := .tuple #[.agg #[.int .i64 0, .int .u64 0, .bool false], .bool false]) (by simp [results, Try.results21, go_sem, r0, r1, r2]) rfl ?_
    have kF : ∀ W, Keeps (· = w.heap.size + 1) w2 W → ROut w rb most R (.tuple #[.agg #[.int .i64 0, .int .u64 0, .bool false], .bool false]) _ (.returned (.tuple #[.agg #[.int .i64 0, .int .u64 0, .bool false], .bool false])) W := fun W hW =>
      ⟨rfl, R2, hR2'.out.keeps hW (fun q hq e => (hg2'.out q hq).elim (fun h => by have := hn1.out q h; omega) (fun h => by omega)), (((kA.out.mono (fun _ h => h.elim)).trans hk1'.out).trans' kW'.out (fun q hq => hq.elim (fun e => .inr (by omega)) (fun h => (hg1'.out q h).elim .inl (fun h => .inr (by simp at h; omega))))).trans' hW (fun q hq => .inr (by omega)), fun q hq => (hg2'.out q hq).elim (fun h => (hg1'.out q h).elim .inl (fun h => .inr (by simp at h; omega))) (fun h => .inr (by omega))⟩
    first
    | exact kF _ (Keeps.refl _ _)
    | exact kF _ ((((Keeps.refl (· = w.heap.size + 1) w2).setCell (.inl rfl) _).setCell (.inl rfl) _).setCell (.inl rfl) _)
end Go.Proofs.Ytnickcjkipemmaa
