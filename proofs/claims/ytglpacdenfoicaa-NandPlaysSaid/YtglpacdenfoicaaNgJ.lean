/- the document's May -/
import Derived.Test.YtglpacdenfoicaaNeB
import Derived.Test.YtglpacdenfoicaaNdS
import Derived.Deep.DeepCutAuto
namespace Go.Proofs.Ytglpacdenfoicaa
section
open Go.RowKit

set_option maxHeartbeats 4000000 in
set_option maxRecDepth 100000 in
theorem fits40_t {d b p n : Int} (h : FitsI d b p n) (w : World) : Calls Try.prog 40 #[.agg #[.int .i64 d, .int .i64 b, .int .i64 p, .int .i64 n]] w fun e w' => e = .returned (.bool true) ∧ Keeps Nil w w' := by
  obtain ⟨m1, m2, m3⟩ := mul_small h.hd h.hb h.hp h.hn
  have hk := Lib.hid ((Keeps.refl Nil w).alloc (.cells #[.int .i64 d, .int .i64 b, .int .i64 p, .int .i64 n] 31))
  have hall := h.all
  obtain ⟨⟨d1, d2⟩, ⟨b1, b2⟩, ⟨p1, p2⟩, ⟨n1, n2⟩, _⟩ := h
  have w1 : IntKind.i64.wrap (d * b) = d * b := by rw [IntKind.wrap_i64]; omega
  have w2 : IntKind.i64.wrap (d * b * p) = d * b * p := by rw [IntKind.wrap_i64]; omega
  have w3 : IntKind.i64.wrap (d * b * p * n) = d * b * p * n := by rw [IntKind.wrap_i64]; omega
  clear m1 m2 m3
  go_enter Try.func40, Try.ntmps40
  go_wp2_with fail
  go_ret
  exact ⟨rfl, hk.out⟩
theorem two_cases {x y m k : Int} : (x < 1) ∨ (1 ≤ x ∧ m < x) ∨ (1 ≤ x ∧ x ≤ m ∧ y < 1) ∨ (1 ≤ x ∧ x ≤ m ∧ 1 ≤ y ∧ k < y) ∨ (1 ≤ x ∧ x ≤ m ∧ 1 ≤ y ∧ y ≤ k) := by omega
set_option maxHeartbeats 8000000 in
set_option maxRecDepth 100000 in
theorem fits40_f {d b p n : Int} (h : ¬ FitsI d b p n) (w : World) : Calls Try.prog 40 #[.agg #[.int .i64 d, .int .i64 b, .int .i64 p, .int .i64 n]] w fun e w' => e = .returned (.bool false) ∧ Keeps Nil w w' := by
  have hk := Lib.hid ((Keeps.refl Nil w).alloc (.cells #[.int .i64 d, .int .i64 b, .int .i64 p, .int .i64 n] 31))
  rcases two_cases (x := d) (y := b) (m := 8) (k := 64) with a1 | ⟨a1, a2⟩ | ⟨a1, a2, a3⟩ | ⟨a1, a2, a3, a4⟩ | ⟨a1, a2, a3, a4⟩ <;> rcases two_cases (x := p) (y := n) (m := 64) (k := 4096) with c1 | ⟨c1, c2⟩ | ⟨c1, c2, c3⟩ | ⟨c1, c2, c3, c4⟩ | ⟨c1, c2, c3, c4⟩
  case inr.inr.inr.inr.inr.inr.inr.inr =>
    obtain ⟨m1, m2, m3⟩ := mul_small ⟨a1, a2⟩ ⟨a3, a4⟩ ⟨c1, c2⟩ ⟨c3, c4⟩
    have w1 : IntKind.i64.wrap (d * b) = d * b := by rw [IntKind.wrap_i64]; omega
    have w2 : IntKind.i64.wrap (d * b * p) = d * b * p := by rw [IntKind.wrap_i64]; omega
    have w3 : IntKind.i64.wrap (d * b * p * n) = d * b * p * n := by rw [IntKind.wrap_i64]; omega
    have hall := Lib.hid (show ¬ d * b * p * n ≤ 4194304 from fun e => h ⟨⟨a1, a2⟩, ⟨a3, a4⟩, ⟨c1, c2⟩, ⟨c3, c4⟩, e⟩)
    clear h m1 m2 m3
    go_enter Try.func40, Try.ntmps40
    go_wp2_with fail
    go_ret
    refine ⟨?_, hk.out⟩
    show Ending.returned (Value.bool (decide (d * b * p * n ≤ 4194304))) = _
    rw [decide_eq_false (Int.not_le.mpr hall.out)]
  all_goals
    clear h
    go_enter Try.func40, Try.ntmps40
    go_wp2_with fail
    go_ret
    first
      | exact ⟨rfl, hk.out⟩
      | (refine ⟨?_, hk.out⟩
         show Ending.returned (Value.bool (decide _)) = _
         rw [decide_eq_false (by omega)])
end
section
open Go.RowKit

theorem any_dropI {p : Int → Bool} {L : List Int} {k : Nat} (hk : k < L.length) : (L.drop k).any p = (p (gi L k) || (L.drop (k + 1)).any p) := by
  rw [List.drop_eq_getElem_cons hk, List.any_cons, gi_eq hk]
theorem in_cases (S : Sh) (f : Ft) : (¬ f.In S ∧ (f.kind < 1 ∨ (1 ≤ f.kind ∧ 6 < f.kind) ∨ (1 ≤ f.kind ∧ f.kind ≤ 6 ∧ f.time < 0) ∨ (1 ≤ f.kind ∧ f.kind ≤ 6 ∧ 0 ≤ f.time ∧ f.times < 0) ∨ (1 ≤ f.kind ∧ f.kind ≤ 6 ∧ 0 ≤ f.time ∧ 0 ≤ f.times ∧ f.part < 0))) ∨
    (1 ≤ f.kind ∧ f.kind ≤ 6 ∧ 0 ≤ f.time ∧ 0 ≤ f.times ∧ 0 ≤ f.part ∧ ((¬ f.In S ∧ (f.die < 0 ∨ (0 ≤ f.die ∧ (S.dies : Int) ≤ f.die) ∨ (0 ≤ f.die ∧ f.die < (S.dies : Int) ∧ f.block < 0) ∨ (0 ≤ f.die ∧ f.die < (S.dies : Int) ∧ 0 ≤ f.block ∧ (S.blocks : Int) ≤ f.block) ∨
      (0 ≤ f.die ∧ f.die < (S.dies : Int) ∧ 0 ≤ f.block ∧ f.block < (S.blocks : Int) ∧ f.page < 0) ∨ (0 ≤ f.die ∧ f.die < (S.dies : Int) ∧ 0 ≤ f.block ∧ f.block < (S.blocks : Int) ∧ 0 ≤ f.page ∧ (S.pages : Int) ≤ f.page))) ∨
      (f.In S ∧ 0 ≤ f.die ∧ f.die < (S.dies : Int) ∧ 0 ≤ f.block ∧ f.block < (S.blocks : Int) ∧ 0 ≤ f.page ∧ f.page < (S.pages : Int)))) := by
  by_cases h : f.In S
  · right
    obtain ⟨a, b, c, d, e, g, i, j, k, l, m⟩ := h
    exact ⟨a, b, c, d, e, .inr ⟨⟨a, b, c, d, e, g, i, j, k, l, m⟩, g, i, j, k, l, m⟩⟩
  · have h2 : ¬ (1 ≤ f.kind ∧ f.kind ≤ 6 ∧ 0 ≤ f.time ∧ 0 ≤ f.times ∧ 0 ≤ f.part ∧ 0 ≤ f.die ∧ f.die < (S.dies : Int) ∧ 0 ≤ f.block ∧ f.block < (S.blocks : Int) ∧ 0 ≤ f.page ∧ f.page < (S.pages : Int)) := fun ⟨a, b, c, d, e, g, i, j, k, l, m⟩ => h ⟨a, b, c, d, e, g, i, j, k, l, m⟩
    by_cases q : 1 ≤ f.kind ∧ f.kind ≤ 6 ∧ 0 ≤ f.time ∧ 0 ≤ f.times ∧ 0 ≤ f.part
    · right
      refine ⟨q.1, q.2.1, q.2.2.1, q.2.2.2.1, q.2.2.2.2, .inl ⟨h, ?_⟩⟩
      omega
    · left
      exact ⟨h, by omega⟩
set_option maxHeartbeats 16000000 in
set_option maxRecDepth 100000 in
theorem may41 (S : Sh) (x : Fx) (hS : S.bytes ≤ 4096) (hm : x.f.bits.length ≤ 140737488351232) (w : World) (hb : NumsAt .i64 w x.a x.f.bits) : Calls Try.prog 41 #[.agg #[.int .i64 (S.dies : Nat), .int .i64 (S.blocks : Nat), .int .i64 (S.pages : Nat), .int .i64 (S.bytes : Nat)], .agg #[.int .i64 x.f.kind, .int .i64 x.f.time, .int .i64 x.f.die, .int .i64 x.f.block, .int .i64 x.f.page, .int .i64 x.f.times, .int .i64 x.f.part, .slice x.a x.f.bits.length x.c]] w fun e w' => e = .returned (.bool (x.f.may S)) ∧ Keeps Nil w w' := by
  have k0 := ((Keeps.refl Nil w).alloc (.cells (shCells S) 31)).alloc (.cells (fCells x) 33)
  have hk := Lib.hid k0
  rcases in_cases S x.f with ⟨hi, h1⟩ | ⟨i1, i2, i3, i4, i5, h2⟩
  · have hr : x.f.may S = false := by unfold Ft.may; simp [hi]
    rw [hr]
    clear hr hi hb hm k0
    rcases h1 with h1 | ⟨h1, h2⟩ | ⟨h1, h2, h3⟩ | ⟨h1, h2, h3, h4⟩ | ⟨h1, h2, h3, h4, h5⟩
    all_goals
      go_enter Try.func41, Try.ntmps41
      go_wp2_with fail
      go_ret
      exact ⟨rfl, hk.out⟩
  · rcases h2 with ⟨hi, h1⟩ | ⟨hi, j1, j2, j3, j4, j5, j6⟩
    · have hr : x.f.may S = false := by unfold Ft.may; simp [hi]
      rw [hr]
      clear hr hi hb hm k0
      rcases h1 with h1 | ⟨h1, h2⟩ | ⟨h1, h2, h3⟩ | ⟨h1, h2, h3, h4⟩ | ⟨h1, h2, h3, h4, h5⟩ | ⟨h1, h2, h3, h4, h5, h6⟩
      all_goals
        go_enter Try.func41, Try.ntmps41
        go_wp2_with fail
        go_ret
        exact ⟨rfl, hk.out⟩
    · have hr : x.f.may S = !(x.f.bits.any (outB S.bytes)) := by unfold Ft.may; simp [hi]
      rw [hr]
      obtain ⟨v, hv⟩ : ∃ v, x.f.bits.any (outB S.bytes) = v := ⟨_, rfl⟩
      rw [hv]
      have hv' := Lib.hid hv
      have hb' := Lib.hid (hb.keeps k0 (fun _ _ h => h))
      have o0 := heap_alloc_new (w.alloc (.cells (shCells S) 31)) (.cells (fCells x) 33)
      have s0 := heap_alloc_old (o' := .cells (fCells x) 33) (heap_alloc_new w (.cells (shCells S) 31))
      rw [show (w.alloc (.cells (shCells S) 31)).heap.size = w.heap.size + 1 by simp] at o0
      obtain ⟨wb, hwb⟩ : ∃ wb, (w.alloc (.cells (shCells S) 31)).alloc (.cells (fCells x) 33) = wb := ⟨_, rfl⟩
      rw [hwb] at o0 s0 hb' hk
      have o0' := Lib.hid o0
      have s0' := Lib.hid s0
      have hwb' := Lib.hid hwb
      clear hr hi hb k0 hv o0 s0 hwb
      go_enter Try.func41, Try.ntmps41
      go_upto_region 5 with (fail)
      rw [show (w.alloc (.cells #[.int .i64 (S.dies : Nat), .int .i64 (S.blocks : Nat), .int .i64 (S.pages : Nat), .int .i64 (S.bytes : Nat)] 31)).alloc (.cells #[.int .i64 x.f.kind, .int .i64 x.f.time, .int .i64 x.f.die, .int .i64 x.f.block, .int .i64 x.f.page, .int .i64 x.f.times, .int .i64 x.f.part, .slice x.a x.f.bits.length x.c] 33) = wb from hwb'.out]
      go_wp2_with fail
      go_loopw [5] (fun i wr => ∃ k : Nat, k ≤ x.f.bits.length ∧ i = .int .i64 k ∧ Keeps Nil wb wr ∧ Hid ((x.f.bits.drop k).any (outB S.bytes) = v)) (fun i _ => x.f.bits.length - (intOf i).toNat)
      case atStart => exact ⟨0, Nat.zero_le _, rfl, Keeps.refl _ _, Lib.hid hv'.out⟩
      case round =>
        obtain ⟨k, hkl, rfl, hkp, hrel⟩ := hrel
        have o7 := cell_of_heap (hkp.heap o0'.out (fun h => h)) 7
        have s3 := cell_of_heap (hkp.heap s0'.out (fun h => h)) 3
        simp only [fCells, shCells, List.getElem?_toArray, List.getElem?_cons_zero, List.getElem?_cons_succ] at o7 s3
        by_cases hlt : k < x.f.bits.length
        · obtain ⟨g, off, hga, hc⟩ := hb'.out k hlt
          have c0 := hkp.cell hc (fun h => h)
          have hrel2 := hrel.out
          rw [any_dropI hlt] at hrel2
          obtain ⟨y, hy⟩ : ∃ y, gi x.f.bits k = y := ⟨_, rfl⟩
          rw [hy] at c0 hrel2
          rw [hga] at o7
          have hw8 : IntKind.i64.wrap (8 * (S.bytes : Int)) = 8 * (S.bytes : Int) := by rw [IntKind.wrap_i64]; omega
          have hkz : k < 140737488351232 := by omega
          have hkp' := Lib.hid hkp
          clear hc hy hrel hga hkp
          by_cases y0 : y < 0
          · have hr : outB S.bytes y = true := by unfold outB; simp [y0]
            rw [hr, Bool.true_or] at hrel2
            subst hrel2
            clear hr
            go_wp2_with fail
            go_quiet (fail)
            go_wp2_with fail
            go_ret
            exact ⟨rfl, hk.out.trans (hkp'.out.drewN _)⟩
          · by_cases y1 : 8 * (S.bytes : Int) ≤ y
            · have hr : outB S.bytes y = true := by unfold outB; simp [y1]
              rw [hr, Bool.true_or] at hrel2
              subst hrel2
              clear hr
              go_wp2_with fail
              go_quiet (fail)
              go_wp2_with fail
              go_ret
              exact ⟨rfl, hk.out.trans (hkp'.out.drewN _)⟩
            · have hr : outB S.bytes y = false := by unfold outB; simp [y0, y1]
              rw [hr, Bool.false_or] at hrel2
              have hrel' := Lib.hid hrel2
              have y2 : y < 8 * (S.bytes : Int) := by omega
              clear hr hrel2
              go_wp2_with fail
              go_quiet (fail)
              go_wp2_with fail
              go_roundw
              case rel => exact ⟨k + 1, by omega, by go_num, hkp'.out.drewN _, hrel'⟩
              case measure => simp [intOf]; omega
        · have hkn : k = x.f.bits.length := by omega
          have hrel2 := hrel.out
          rw [hkn, List.drop_length] at hrel2
          have hrel' := Lib.hid hrel2
          have hkp' := Lib.hid hkp
          clear hrel hrel2 hkp hkn
          go_wp2_with fail
          go_ret
          rw [← hrel'.out]
          exact ⟨rfl, hk.out.trans hkp'.out⟩
end
end Go.Proofs.Ytglpacdenfoicaa
