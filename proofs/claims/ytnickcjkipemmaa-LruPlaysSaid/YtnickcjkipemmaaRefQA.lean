/- the reference's cache: the walk of Put; same, rows of the law -/
import Derived.Test.YtnickcjkipemmaaRefQ
namespace Go.Proofs.Ytnickcjkipemmaa
open Go.RowKit

attribute [local go_sem ↓] Go.wp_at_zero Go.wp_at_succ

variable {w : World} {rb cap : Nat} {most : Int} {a : Option Addr} {l : List Ent} {R : Nat → Prop}
set_option maxHeartbeats 8000000 in
theorem rput_room (h : RefX w rb most l R) (e : Ent) (hi : lidx e.key l 0 = -1) (hf : ¬ (l.length : Int) = most) (hlen : l.length < 1000000) :
    Calls Try.prog 21 #[.pointer (some ⟨rb, 0, none⟩), .agg #[.int .i64 e.key, .int .u64 e.val, .bool e.dirty]] w (ROut w rb most R (.tuple #[entV ent0, .bool false]) (e :: l)) := by
  obtain ⟨ke, ve, de⟩ := e
  simp only at hi
  simp only [entV, ent0]
  have kA := Lib.hid ((((Keeps.refl Nil w).alloc (.cells #[.int .i64 ke, .int .u64 ve, .bool de] 54)).alloc (.cells #[.int .i64 0, .int .u64 0, .bool false] 54)).alloc (.cells #[.int .i64 0, .int .u64 0, .bool false] 54))
  have hA := Lib.hid (heap_alloc_old (o' := .cells #[.int .i64 0, .int .u64 0, .bool false] 54) (heap_alloc_old (o' := .cells #[.int .i64 0, .int .u64 0, .bool false] 54) (heap_alloc_new w (.cells #[.int .i64 ke, .int .u64 ve, .bool de] 54))))
  have hB := heap_alloc_old (o' := .cells #[.int .i64 0, .int .u64 0, .bool false] 54) (heap_alloc_new (w.alloc (.cells #[.int .i64 ke, .int .u64 ve, .bool de] 54)) (.cells #[.int .i64 0, .int .u64 0, .bool false] 54))
  have hC := heap_alloc_new ((w.alloc (.cells #[.int .i64 ke, .int .u64 ve, .bool de] 54)).alloc (.cells #[.int .i64 0, .int .u64 0, .bool false] 54)) (.cells #[.int .i64 0, .int .u64 0, .bool false] 54)
  rw [heap_alloc_size'] at hB
  rw [heap_alloc_size', heap_alloc_size'] at hC
  have hB' := Lib.hid hB
  have hC' := Lib.hid hC
  have hF := Lib.hid (show ∀ W, Keeps Nil w W → Calls Try.prog 46 #[.pointer (some ⟨rb, 0, none⟩), .int .i64 ke] W fun e w' => e = .returned (.int .i64 (-1)) ∧ W = w' from fun W hW => by have := rfindX (h.nil hW) ke (by omega); rwa [hi] at this)
  have hfi := Lib.hid (show ∀ W, Keeps Nil w W → Calls Try.prog 48 #[.pointer (some ⟨rb, 0, none⟩), .agg #[.int .i64 ke, .int .u64 ve, .bool de]] W (ROut W rb most R (.tuple #[]) (⟨ke, ve, de⟩ :: l)) from fun W hW => rfirstX (h.nil hW) ⟨ke, ve, de⟩ (by omega))
  have hnA := Lib.hid (show ∀ q, R q → q < w.heap.size from fun q hq => h.lt hq)
  obtain ⟨aa, cc, hBr, hRr⟩ := h
  have hh := kA.out.heap hBr.head (fun h => h)
  have m0 := cell_of_heap hh 0
  have m1 := cell_of_heap hh 1
  simp at m0 m1
  obtain ⟨n, hn⟩ : ∃ n, l.length = n := ⟨_, rfl⟩
  rw [hn] at m1 hf
  have e1 : ((n : Int) == most) = false := by simpa using hf
  clear hBr hRr hh hB hC hi hf hn
  go_enter Try.func21, Try.ntmps21
  go_wp2_with fail
  refine (hF.out _ (by exact ((Keeps.refl Nil w).alloc _).alloc _)).mono ?_
  rintro e w0 ⟨rfl, rfl⟩
  go_wp2_with fail
  go_quiet (fail)
  go_wp2_with fail
  refine (hfi.out _ (by exact kA.out.drewN _)).mono ?_
  rintro e w2 ⟨rfl, R2, hR2, hk2, hg2⟩
  have hk2s := hk2.size
  have hv2 := hk2.heap (show _ = some (.cells #[.int .i64 0, .int .u64 0, .bool false] 54) from hC'.out) (fun e => by have := hnA.out _ e; omega)
  have hr2 := hk2.heap (show _ = some (.cells #[.int .i64 0, .int .u64 0, .bool false] 54) from hB'.out) (fun e => by have := hnA.out _ e; omega)
  have c0 := cell_of_heap hv2 0
  have c1 := cell_of_heap hv2 1
  have c2 := cell_of_heap hv2 2
  have r0 := cell_of_heap hr2 0
  have r1 := cell_of_heap hr2 1
  have r2 := cell_of_heap hr2 2
  simp at c0 c1 c2 r0 r1 r2
  have g0 := frozen_of_heap hr2 0
  have g1 := frozen_of_heap hr2 1
  have g2 := frozen_of_heap hr2 2
  have hl2 := lt_of_heap hr2
  have hR2' := Lib.hid hR2
  have kW := Lib.hid ((kA.out.drewN _).mono (T := R) (fun _ h => h.elim) |>.trans hk2)
  have hg2' := Lib.hid (show ∀ q, R2 q → R q ∨ w.heap.size + 3 ≤ q from fun q hq => (hg2 q hq).elim .inl (fun h => .inr (Nat.le_trans (by simp) h)))
  clear hR2 hk2 hg2 hr2 hv2 m0 m1 hk2s
  go_wp2_with fail
  refine bodyPost_ret (v := .tuple #[.agg #[.int .i64 0, .int .u64 0, .bool false], .bool false]) (by simp [results, Try.results21, go_sem, r0, r1, r2]) rfl ?_
  have kF : ∀ W, Keeps (· = w.heap.size + 1) w2 W → ROut w rb most R (.tuple #[.agg #[.int .i64 0, .int .u64 0, .bool false], .bool false]) _ (.returned (.tuple #[.agg #[.int .i64 0, .int .u64 0, .bool false], .bool false])) W := fun W hW =>
    ⟨rfl, R2, hR2'.out.keeps hW (fun q hq e => (hg2'.out q hq).elim (fun h => by have := hnA.out q h; omega) (fun h => by omega)), kW.out.trans' hW (fun q hq => .inr (by omega)), fun q hq => (hg2'.out q hq).elim .inl (fun h => .inr (by omega))⟩
  first
  | exact kF _ (Keeps.refl _ _)
  | exact kF _ ((((Keeps.refl (· = w.heap.size + 1) w2).setCell (.inl rfl) _).setCell (.inl rfl) _).setCell (.inl rfl) _)

end Go.Proofs.Ytnickcjkipemmaa
