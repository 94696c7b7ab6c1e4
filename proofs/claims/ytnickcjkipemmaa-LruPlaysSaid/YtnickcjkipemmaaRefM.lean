/- LruPlays: the walk -/
import Derived.Test.YtnickcjkipemmaaRefL
import Derived.Deep.CutBlock
import Derived.Deep.DeepCutAuto
namespace Go.Proofs.Ytnickcjkipemmaa
open Go.RowKit

attribute [local go_sem ↓] Go.wp_at_zero Go.wp_at_succ

set_option maxHeartbeats 32000000 in
set_option maxRecDepth 100000 in
theorem plays_any (most : Int) (ax : Option Addr) (n capx : Nat) (l0 : Nat → OpR) (w : World) (hx : OpsAt w ax n l0) (hok : ∀ j, j < n → OpOk (l0 j)) (hmx : n ≤ maxLen) :
    Calls Try.prog 7 #[.int .i64 most, .slice ax n capx] w fun e w' => e = .returned (.bool true) ∧ Keeps Nil w w' := by
  have hmx2 : n ≤ 9223372036854775807 := by unfold maxLen at hmx; omega
  have hx' := Lib.hid hx
  have hok' := Lib.hid hok
  clear hx hok hmx
  by_cases hm : most < 1
  · have d1 := decide_eq_true hm
    go_enter Try.func7, Try.ntmps7
    go_wp2_with fail
    refine (awake_any w).mono ?_
    rintro e w1 ⟨rfl, hk1⟩
    have hk1' := Lib.hid hk1
    clear hk1
    go_wp2_with fail
    refine (new_none most w1 hm).mono ?_
    rintro e w2 ⟨rfl, hk2⟩
    have hk2' := Lib.hid hk2
    clear hk2 hm
    go_wp2_with fail
    go_ret
    exact ⟨rfl, hk1'.out.trans hk2'.out⟩
  have d1 := decide_eq_false hm
  go_enter Try.func7, Try.ntmps7
  go_wp2_with fail
  refine (awake_any w).mono ?_
  rintro e w1 ⟨rfl, hk1⟩
  have hk1' := Lib.hid hk1
  clear hk1
  go_wp2_with fail
  refine (newX most w1 (by omega)).mono ?_
  rintro e w2 ⟨cb, O, rfl, hL, hK, hO⟩
  obtain ⟨rb, hrb⟩ : ∃ rb : Nat, rb = w2.heap.size := ⟨_, rfl⟩
  have hP0 := Lib.hid (show PlayW w (w2.alloc (.cells #[.int .i64 most, .slice none 0 0] 53)) cb rb most [] [] O (rown rb none) from by
    have hk : Keeps Nil w2 (w2.alloc (.cells #[.int .i64 most, .slice none 0 0] 53)) := (Keeps.refl Nil w2).alloc _
    have hs1 := hk1'.out.size
    have hs2 := hK.size
    refine ⟨hL.nil hk, ⟨none, 0, ⟨by rw [hrb]; exact heap_alloc_new w2 _, RecRow.nil _ _, fun e => by cases e⟩, rfl⟩, (hk1'.out.trans hK).trans hk, fun k hk => by have := hO k hk; omega, ?_, ?_⟩
    · rintro k (rfl | e)
      · omega
      · cases e
    · rintro k ho (rfl | e)
      · have := hL.lt ho; omega
      · cases e)
  have hm1 := Lib.hid (show 1 ≤ most by omega)
  clear hL hK hO hk1' hm
  go_wp2_with fail
  rw [← hrb]
  clear hrb
  go_loopw [9, 10, 11, 12, 13, 14, 15, 16, 17, 18, 19, 20, 21, 22, 23] (fun i _ _ _ _ _ _ _ _ _ _ _ _ _ _ wr => ∃ (k : Nat) (l : List Ent) (O R : Nat → Prop), k ≤ 120 ∧ l.length ≤ k ∧ (l.length : Int) ≤ most ∧ i = .int .i64 k ∧ PlayW w wr cb rb most l l O R) (fun i _ _ _ _ _ _ _ _ _ _ _ _ _ _ _ => 120 - (intOf i).toNat)
  case atStart => exact ⟨0, [], O, _, by omega, by simp, by have := hm1.out; simp; omega, rfl, hP0.out⟩
  case round =>
    obtain ⟨i, l, O2, R2, hi, hli, hlm, rfl, hP⟩ := hrel
    have hP' := Lib.hid hP
    have hlm' := Lib.hid hlm
    clear hP hlm
    by_cases hin : i < n ∧ i < 120
    · obtain ⟨hi1, hi2⟩ := hin
      obtain ⟨b, off, rfl, hop⟩ := hx'.out i hi1
      have hop2 := hop.keeps hP'.out.k (fun h => h)
      obtain ⟨⟨hk0, hk1⟩, _, _, _⟩ := hok'.out i hi1
      obtain ⟨o, ho⟩ : ∃ o, l0 i = o := ⟨_, rfl⟩
      rw [ho] at hop2 hk0 hk1
      obtain ⟨kd, key, tt, val, dirty⟩ := o
      obtain ⟨c0, c1, c2, c3, c4⟩ := hop2
      simp only at c0 c1 c2 c3 c4 hk0 hk1
      obtain ⟨a, ha⟩ : ∃ a, absI kd = a := ⟨_, rfl⟩
      have ha0 : 0 ≤ a := by rw [← ha]; exact absI_nonneg _
      have hA := Lib.hid (fun W => abs_val kd a W hk0 hk1 ha)
      obtain ⟨m7, hm7⟩ : ∃ m7, a % 7 = m7 := ⟨_, rfl⟩
      have hkd : m7 = 0 ∨ m7 = 1 ∨ m7 = 2 ∨ m7 = 3 ∨ m7 = 4 ∨ m7 = 5 ∨ m7 = 6 := by omega
      have hkd' := Lib.hid hkd
      clear hkd hop ho ha hk0 hk1
      go_upto_block 2 with (go_at_call 13; refine (hA.out _).mono ?_; rintro e w3 ⟨rfl, rfl⟩)
      rw [hm7]
      clear hm7 ha0
      go_cut [11, 12, 13, 14, 15, 16, 17, 18, 19, 20, 21, 22, 23] (fun v _ _ _ _ _ _ _ _ _ _ _ _ wx => v = .bool true ∧ ∃ (l' : List Ent) (O' R' : Nat → Prop), l'.length ≤ i + 1 ∧ (l'.length : Int) ≤ most ∧ PlayW w wx cb rb most l' l' O' R')
      case first =>
        have hkd := hkd'.out
        have hkA : Keeps Nil wr (wr.alloc (.cells #[.int .i64 kd, .int .i64 key, .int .i64 tt, .int .u64 val, .bool dirty] 44)) := (Keeps.refl Nil wr).alloc _
        have hP4 := Lib.hid (show PlayO w (wr.alloc (.cells #[.int .i64 kd, .int .i64 key, .int .i64 tt, .int .u64 val, .bool dirty] 44)) cb rb most l l O2 R2 wr.heap.size #[.int .i64 kd, .int .i64 key, .int .i64 tt, .int .u64 val, .bool dirty] from ⟨hP'.out.nil hkA, heap_alloc_new wr _, fun ho => by have := hP'.out.c.lt ho; omega, fun ho => by have := hP'.out.r.lt ho; omega⟩)
        clear hkA c0 c1 c2 c3 c4
        rcases hkd with rfl | rfl | rfl | rfl | rfl | rfl | rfl
        · as_aux_lemma =>
          have hnl := Lib.hid (show (lput most ⟨key, val, dirty⟩ l).length ≤ i + 1 from by have := lput_new_length (most := most) (e := ⟨key, val, dirty⟩) (L := l); omega)
          have hnm := Lib.hid (lput_length (e := ⟨key, val, dirty⟩) hm1.out hlm'.out)
          obtain ⟨x, hx⟩ : ∃ x, lgone most ⟨key, val, dirty⟩ l = x := ⟨_, rfl⟩
          obtain ⟨fb, hfb⟩ : ∃ fb, lfull most ⟨key, val, dirty⟩ l = fb := ⟨_, rfl⟩
          obtain ⟨l', hl'⟩ : ∃ l', lput most ⟨key, val, dirty⟩ l = l' := ⟨_, rfl⟩
          rw [hl'] at hnl hnm
          obtain ⟨xk, xv, xd⟩ := x
          have hP1 := putX' hP4.out.p.c ⟨key, val, dirty⟩ hlm'.out hm1.out
          rw [hx, hfb, hl'] at hP1
          have hPut := Lib.hid (show Calls Try.prog 15 #[.pointer (some ⟨cb, 0, none⟩), .agg #[.int .i64 key, .int .u64 val, .bool dirty]] (wr.alloc (.cells #[.int .i64 kd, .int .i64 key, .int .i64 tt, .int .u64 val, .bool dirty] 44)) (CacheOut (wr.alloc (.cells #[.int .i64 kd, .int .i64 key, .int .i64 tt, .int .u64 val, .bool dirty] 44)) cb most O2 (.tuple #[.agg #[.int .i64 xk, .int .u64 xv, .bool xd], .bool fb]) l') from hP1)
          have hRp := Lib.hid (show ∀ (W : World) (R : Nat → Prop), RefX W rb most l R → Calls Try.prog 21 #[.pointer (some ⟨rb, 0, none⟩), .agg #[.int .i64 key, .int .u64 val, .bool dirty]] W (ROut W rb most R (.tuple #[.agg #[.int .i64 xk, .int .u64 xv, .bool xd], .bool fb]) l') from fun W R h => by
            have := rputX h ⟨key, val, dirty⟩ hm1.out (by omega)
            rw [hx, hfb, hl'] at this
            exact this)
          have hSm := Lib.hid (fun W => same22 W ⟨xk, xv, xd⟩)
          simp only [entV] at hSm
          have ebb : (fb == fb) = true := by simp
          clear hP1 hx hfb hl'
          go_wp2_with fail
          refine (hPut.out).mono ?_
          intro e w5 hB5
          obtain ⟨rfl, O5, hP5, hk5⟩ := hP4.out.cache hB5
          have hX := Lib.hid (heap_alloc_new w5 (.cells #[.int .i64 xk, .int .u64 xv, .bool xd] 32))
          have hP6 := Lib.hid (hP5.nil ((Keeps.refl Nil w5).alloc (.cells #[.int .i64 xk, .int .u64 xv, .bool xd] 32)))
          have hnX := Lib.hid (show ¬ R2 w5.heap.size from fun e => by have := hP5.p.r.lt e; omega)
          have q1 := cell_of_heap hP6.out.h 1
          have q3 := cell_of_heap hP6.out.h 3
          have q4 := cell_of_heap hP6.out.h 4
          simp at q1 q3 q4
          have hRef := Lib.hid (hRp.out _ _ hP6.out.p.r)
          clear hB5 hP5 hk5 hPut
          go_wp2_with fail
          refine (hRef.out).mono ?_
          intro e w7 hB7
          obtain ⟨rfl, R7, hP7, hk7⟩ := hP6.out.ref hB7
          have hX7 := hk7.heap hX.out hnX.out
          have x0 := cell_of_heap hX7 0
          have x1 := cell_of_heap hX7 1
          have x2 := cell_of_heap hX7 2
          simp at x0 x1 x2
          have hxl := lt_of_heap hX7
          have hP7' := Lib.hid hP7
          clear hB7 hP7 hk7 hX7 q1 q3 q4 hRef
          go_wp2_with fail
          refine (hSm.out _).mono ?_
          rintro e w8 ⟨rfl, hk8⟩
          have hP8 := Lib.hid (hP7'.out.nil (((Keeps.refl Nil w7).alloc (.cells #[.int .i64 xk, .int .u64 xv, .bool xd] 54)).trans hk8))
          clear hk8
          go_wp2_with fail
          go_meet
          exact ⟨rfl, l', O5, R7, hnl.out, hnm.out, hP8.out.p⟩
        · as_aux_lemma =>
          have hnl := Lib.hid (show (lput most ⟨key, val, dirty⟩ l).length ≤ i + 1 from by have := lput_new_length (most := most) (e := ⟨key, val, dirty⟩) (L := l); omega)
          have hnm := Lib.hid (lput_length (e := ⟨key, val, dirty⟩) hm1.out hlm'.out)
          obtain ⟨x, hx⟩ : ∃ x, lgone most ⟨key, val, dirty⟩ l = x := ⟨_, rfl⟩
          obtain ⟨fb, hfb⟩ : ∃ fb, lfull most ⟨key, val, dirty⟩ l = fb := ⟨_, rfl⟩
          obtain ⟨l', hl'⟩ : ∃ l', lput most ⟨key, val, dirty⟩ l = l' := ⟨_, rfl⟩
          rw [hl'] at hnl hnm
          obtain ⟨xk, xv, xd⟩ := x
          have hP1 := putX' hP4.out.p.c ⟨key, val, dirty⟩ hlm'.out hm1.out
          rw [hx, hfb, hl'] at hP1
          have hPut := Lib.hid (show Calls Try.prog 15 #[.pointer (some ⟨cb, 0, none⟩), .agg #[.int .i64 key, .int .u64 val, .bool dirty]] (wr.alloc (.cells #[.int .i64 kd, .int .i64 key, .int .i64 tt, .int .u64 val, .bool dirty] 44)) (CacheOut (wr.alloc (.cells #[.int .i64 kd, .int .i64 key, .int .i64 tt, .int .u64 val, .bool dirty] 44)) cb most O2 (.tuple #[.agg #[.int .i64 xk, .int .u64 xv, .bool xd], .bool fb]) l') from hP1)
          have hRp := Lib.hid (show ∀ (W : World) (R : Nat → Prop), RefX W rb most l R → Calls Try.prog 21 #[.pointer (some ⟨rb, 0, none⟩), .agg #[.int .i64 key, .int .u64 val, .bool dirty]] W (ROut W rb most R (.tuple #[.agg #[.int .i64 xk, .int .u64 xv, .bool xd], .bool fb]) l') from fun W R h => by
            have := rputX h ⟨key, val, dirty⟩ hm1.out (by omega)
            rw [hx, hfb, hl'] at this
            exact this)
          have hSm := Lib.hid (fun W => same22 W ⟨xk, xv, xd⟩)
          simp only [entV] at hSm
          have ebb : (fb == fb) = true := by simp
          clear hP1 hx hfb hl'
          go_wp2_with fail
          refine (hPut.out).mono ?_
          intro e w5 hB5
          obtain ⟨rfl, O5, hP5, hk5⟩ := hP4.out.cache hB5
          have hX := Lib.hid (heap_alloc_new w5 (.cells #[.int .i64 xk, .int .u64 xv, .bool xd] 32))
          have hP6 := Lib.hid (hP5.nil ((Keeps.refl Nil w5).alloc (.cells #[.int .i64 xk, .int .u64 xv, .bool xd] 32)))
          have hnX := Lib.hid (show ¬ R2 w5.heap.size from fun e => by have := hP5.p.r.lt e; omega)
          have q1 := cell_of_heap hP6.out.h 1
          have q3 := cell_of_heap hP6.out.h 3
          have q4 := cell_of_heap hP6.out.h 4
          simp at q1 q3 q4
          have hRef := Lib.hid (hRp.out _ _ hP6.out.p.r)
          clear hB5 hP5 hk5 hPut
          go_wp2_with fail
          refine (hRef.out).mono ?_
          intro e w7 hB7
          obtain ⟨rfl, R7, hP7, hk7⟩ := hP6.out.ref hB7
          have hX7 := hk7.heap hX.out hnX.out
          have x0 := cell_of_heap hX7 0
          have x1 := cell_of_heap hX7 1
          have x2 := cell_of_heap hX7 2
          simp at x0 x1 x2
          have hxl := lt_of_heap hX7
          have hP7' := Lib.hid hP7
          clear hB7 hP7 hk7 hX7 q1 q3 q4 hRef
          go_wp2_with fail
          refine (hSm.out _).mono ?_
          rintro e w8 ⟨rfl, hk8⟩
          have hP8 := Lib.hid (hP7'.out.nil (((Keeps.refl Nil w7).alloc (.cells #[.int .i64 xk, .int .u64 xv, .bool xd] 54)).trans hk8))
          clear hk8
          go_wp2_with fail
          go_meet
          exact ⟨rfl, l', O5, R7, hnl.out, hnm.out, hP8.out.p⟩
        · as_aux_lemma =>
          have hnl := Lib.hid (show (lput most ⟨key, val, dirty⟩ l).length ≤ i + 1 from by have := lput_new_length (most := most) (e := ⟨key, val, dirty⟩) (L := l); omega)
          have hnm := Lib.hid (lput_length (e := ⟨key, val, dirty⟩) hm1.out hlm'.out)
          obtain ⟨x, hx⟩ : ∃ x, lgone most ⟨key, val, dirty⟩ l = x := ⟨_, rfl⟩
          obtain ⟨fb, hfb⟩ : ∃ fb, lfull most ⟨key, val, dirty⟩ l = fb := ⟨_, rfl⟩
          obtain ⟨l', hl'⟩ : ∃ l', lput most ⟨key, val, dirty⟩ l = l' := ⟨_, rfl⟩
          rw [hl'] at hnl hnm
          obtain ⟨xk, xv, xd⟩ := x
          have hP1 := putX' hP4.out.p.c ⟨key, val, dirty⟩ hlm'.out hm1.out
          rw [hx, hfb, hl'] at hP1
          have hPut := Lib.hid (show Calls Try.prog 15 #[.pointer (some ⟨cb, 0, none⟩), .agg #[.int .i64 key, .int .u64 val, .bool dirty]] (wr.alloc (.cells #[.int .i64 kd, .int .i64 key, .int .i64 tt, .int .u64 val, .bool dirty] 44)) (CacheOut (wr.alloc (.cells #[.int .i64 kd, .int .i64 key, .int .i64 tt, .int .u64 val, .bool dirty] 44)) cb most O2 (.tuple #[.agg #[.int .i64 xk, .int .u64 xv, .bool xd], .bool fb]) l') from hP1)
          have hRp := Lib.hid (show ∀ (W : World) (R : Nat → Prop), RefX W rb most l R → Calls Try.prog 21 #[.pointer (some ⟨rb, 0, none⟩), .agg #[.int .i64 key, .int .u64 val, .bool dirty]] W (ROut W rb most R (.tuple #[.agg #[.int .i64 xk, .int .u64 xv, .bool xd], .bool fb]) l') from fun W R h => by
            have := rputX h ⟨key, val, dirty⟩ hm1.out (by omega)
            rw [hx, hfb, hl'] at this
            exact this)
          have hSm := Lib.hid (fun W => same22 W ⟨xk, xv, xd⟩)
          simp only [entV] at hSm
          have ebb : (fb == fb) = true := by simp
          clear hP1 hx hfb hl'
          go_wp2_with fail
          refine (hPut.out).mono ?_
          intro e w5 hB5
          obtain ⟨rfl, O5, hP5, hk5⟩ := hP4.out.cache hB5
          have hX := Lib.hid (heap_alloc_new w5 (.cells #[.int .i64 xk, .int .u64 xv, .bool xd] 32))
          have hP6 := Lib.hid (hP5.nil ((Keeps.refl Nil w5).alloc (.cells #[.int .i64 xk, .int .u64 xv, .bool xd] 32)))
          have hnX := Lib.hid (show ¬ R2 w5.heap.size from fun e => by have := hP5.p.r.lt e; omega)
          have q1 := cell_of_heap hP6.out.h 1
          have q3 := cell_of_heap hP6.out.h 3
          have q4 := cell_of_heap hP6.out.h 4
          simp at q1 q3 q4
          have hRef := Lib.hid (hRp.out _ _ hP6.out.p.r)
          clear hB5 hP5 hk5 hPut
          go_wp2_with fail
          refine (hRef.out).mono ?_
          intro e w7 hB7
          obtain ⟨rfl, R7, hP7, hk7⟩ := hP6.out.ref hB7
          have hX7 := hk7.heap hX.out hnX.out
          have x0 := cell_of_heap hX7 0
          have x1 := cell_of_heap hX7 1
          have x2 := cell_of_heap hX7 2
          simp at x0 x1 x2
          have hxl := lt_of_heap hX7
          have hP7' := Lib.hid hP7
          clear hB7 hP7 hk7 hX7 q1 q3 q4 hRef
          go_wp2_with fail
          refine (hSm.out _).mono ?_
          rintro e w8 ⟨rfl, hk8⟩
          have hP8 := Lib.hid (hP7'.out.nil (((Keeps.refl Nil w7).alloc (.cells #[.int .i64 xk, .int .u64 xv, .bool xd] 54)).trans hk8))
          clear hk8
          go_wp2_with fail
          go_meet
          exact ⟨rfl, l', O5, R7, hnl.out, hnm.out, hP8.out.p⟩
        · as_aux_lemma =>
          have hnl := Lib.hid (show (lfront key l).length ≤ i + 1 from by rw [lfront_len]; omega)
          have hnm := Lib.hid (show ((lfront key l).length : Int) ≤ most from by rw [lfront_len]; exact hlm'.out)
          obtain ⟨gv, hgv⟩ : ∃ x, lval key l = x := ⟨_, rfl⟩
          obtain ⟨fb, hfb⟩ : ∃ fb, lhas key l = fb := ⟨_, rfl⟩
          obtain ⟨l', hl'⟩ : ∃ l', lfront key l = l' := ⟨_, rfl⟩
          rw [hl'] at hnl hnm
          have hP1 := getX hP4.out.p.c key
          rw [hgv, hfb, hl'] at hP1
          have hGet := Lib.hid hP1
          have hRg := Lib.hid (show ∀ (W : World) (R : Nat → Prop), RefX W rb most l R → Calls Try.prog 23 #[.pointer (some ⟨rb, 0, none⟩), .int .i64 key] W (ROut W rb most R (.tuple #[.int .u64 gv, .bool fb]) l') from fun W R h => by
            have := rgetX h key (by omega)
            rw [hgv, hfb, hl'] at this
            exact this)
          have ebb : (fb == fb) = true := by simp
          have evv : (gv == gv) = true := by simp
          clear hP1 hgv hfb hl'
          go_wp2_with fail
          refine (hGet.out).mono ?_
          intro e w5 hB5
          obtain ⟨rfl, O5, hP5, hk5⟩ := hP4.out.cache hB5
          have q1 := cell_of_heap hP5.h 1
          simp at q1
          have hP5' := Lib.hid hP5
          have hRef := Lib.hid (hRg.out _ _ hP5.p.r)
          clear hB5 hP5 hk5 hGet
          go_wp2_with fail
          refine (hRef.out).mono ?_
          intro e w7 hB7
          obtain ⟨rfl, R7, hP7, hk7⟩ := hP5'.out.ref hB7
          have hP7' := Lib.hid hP7
          clear hB7 hP7 hk7 q1 hRef
          go_wp2_with fail
          go_meet
          exact ⟨rfl, l', O5, R7, hnl.out, hnm.out, hP7'.out.p⟩
        · as_aux_lemma =>
          have hnl := Lib.hid (show (lfront key l).length ≤ i + 1 from by rw [lfront_len]; omega)
          have hnm := Lib.hid (show ((lfront key l).length : Int) ≤ most from by rw [lfront_len]; exact hlm'.out)
          obtain ⟨gv, hgv⟩ : ∃ x, lval key l = x := ⟨_, rfl⟩
          obtain ⟨fb, hfb⟩ : ∃ fb, lhas key l = fb := ⟨_, rfl⟩
          obtain ⟨l', hl'⟩ : ∃ l', lfront key l = l' := ⟨_, rfl⟩
          rw [hl'] at hnl hnm
          have hP1 := getX hP4.out.p.c key
          rw [hgv, hfb, hl'] at hP1
          have hGet := Lib.hid hP1
          have hRg := Lib.hid (show ∀ (W : World) (R : Nat → Prop), RefX W rb most l R → Calls Try.prog 23 #[.pointer (some ⟨rb, 0, none⟩), .int .i64 key] W (ROut W rb most R (.tuple #[.int .u64 gv, .bool fb]) l') from fun W R h => by
            have := rgetX h key (by omega)
            rw [hgv, hfb, hl'] at this
            exact this)
          have ebb : (fb == fb) = true := by simp
          have evv : (gv == gv) = true := by simp
          clear hP1 hgv hfb hl'
          go_wp2_with fail
          refine (hGet.out).mono ?_
          intro e w5 hB5
          obtain ⟨rfl, O5, hP5, hk5⟩ := hP4.out.cache hB5
          have q1 := cell_of_heap hP5.h 1
          simp at q1
          have hP5' := Lib.hid hP5
          have hRef := Lib.hid (hRg.out _ _ hP5.p.r)
          clear hB5 hP5 hk5 hGet
          go_wp2_with fail
          refine (hRef.out).mono ?_
          intro e w7 hB7
          obtain ⟨rfl, R7, hP7, hk7⟩ := hP5'.out.ref hB7
          have hP7' := Lib.hid hP7
          clear hB7 hP7 hk7 q1 hRef
          go_wp2_with fail
          go_meet
          exact ⟨rfl, l', O5, R7, hnl.out, hnm.out, hP7'.out.p⟩
        · as_aux_lemma =>
          have hnl := Lib.hid (show (lclr key tt l).length ≤ i + 1 from by rw [lclr_len]; omega)
          have hnm := Lib.hid (show ((lclr key tt l).length : Int) ≤ most from by rw [lclr_len]; exact hlm'.out)
          have hnd := Lib.hid hP4.out.p.c.nodup
          have hl3 := Lib.hid (show l.length ≤ 1000000 by omega)
          obtain ⟨w4, hw4⟩ : ∃ w4, (wr.alloc (.cells #[.int .i64 kd, .int .i64 key, .int .i64 tt, .int .u64 val, .bool dirty] 44)) = w4 := ⟨_, rfl⟩
          rw [hw4] at hP4 ⊢
          clear hw4
          have a1 := cell_of_heap hP4.out.h 1
          have a2 := cell_of_heap hP4.out.h 2
          simp at a1 a2
          go_wp2_with fail
          go_region_held3 (fun W => W.cell? ⟨wr.heap.size, 1, none⟩ = some (.int .i64 key) ∧ W.cell? ⟨wr.heap.size, 2, none⟩ = some (.int .i64 tt)) (first | exact ⟨f1, f2⟩ | exact ⟨d1, d2⟩ | exact ⟨b1, b2⟩ | exact ⟨a1, a2⟩) (first
            | (go_at_call 20; refine (cleanX (lo := key) (hi := tt) (hP4.out.nil (Keeps.refl Nil w4).drew).p.c hl3.out).mono ?_; intro e w5 hB5; obtain ⟨M, ma, mc, rfl, hM, hMr, hMg, hP5, hk5⟩ := (hP4.out.nil (Keeps.refl Nil w4).drew).clean hB5; have b1 := cell_of_heap hP5.h 1; have b2 := cell_of_heap hP5.h 2; simp at b1 b2; have hM' := Lib.hid hM; have hMr' := Lib.hid hMr; have hMg' := Lib.hid hMg; have hP5' := Lib.hid hP5; clear hB5 hM hMr hMg hP5 hk5)
            | (go_at_call 25; refine (rcleanX hP5'.out.p.r key tt hnd.out hl3.out).mono ?_; intro e w6 hB6; obtain ⟨M2, mb, mc2, rfl, hM2, hM2r, _, hP6, hk6⟩ := hP5'.out.rclean hB6; have d1 := cell_of_heap hP6.h 1; have d2 := cell_of_heap hP6.h 2; simp at d1 d2; obtain rfl : M2 = M := CleanOf.unique (lo := key) (hi := tt) (L := l) hM2 hM'.out; have hrA := Lib.hid (show EntRow w6 32 ma mc M2 from RowAt.keeps hMr'.out hk6 (fun g hg e => by have h9 := hP4.out.p.r.lt e; have h8 := hMg'.out g hg; have h7 : w4.heap.size ≤ g := h8; omega)); have hrB := Lib.hid hM2r; have hP6' := Lib.hid hP6; have hMl := Lib.hid (show M2.length ≤ 1000000 from by have h9 := hM'.out.1.length_eq; have h8 := List.length_filter_le (inR key tt) l; have h7 := hl3.out; unfold lpick at h9; omega); clear hB6 hM2 hM2r hP6 hk6)
            | (go_at_call 24; refine (rows24 hrA.out hrB.out hMl.out).mono ?_; rintro e w7 ⟨rfl, hk7⟩; have hP7 := Lib.hid (hP6'.out.nil hk7); have f1 := cell_of_heap hP7.out.h 1; have f2 := cell_of_heap hP7.out.h 2; simp at f1 f2; clear hk7))
          go_wp2_with fail
          go_meet
          exact ⟨rfl, _, O2, R2, hnl.out, hnm.out, hP7.out.p⟩
        · as_aux_lemma =>
          have hnl := Lib.hid (show (ldel key l).length ≤ i + 1 from by have := ldel_len key l; omega)
          have hnm := Lib.hid (show ((ldel key l).length : Int) ≤ most from by have := ldel_len key l; have := hlm'.out; omega)
          obtain ⟨x, hx⟩ : ∃ x, lent key l = x := ⟨_, rfl⟩
          obtain ⟨fb, hfb⟩ : ∃ fb, lhas key l = fb := ⟨_, rfl⟩
          obtain ⟨l', hl'⟩ : ∃ l', ldel key l = l' := ⟨_, rfl⟩
          rw [hl'] at hnl hnm
          obtain ⟨xk, xv, xd⟩ := x
          have hP1 := dropX hP4.out.p.c key
          rw [hx, hfb, hl'] at hP1
          have hPut := Lib.hid (show Calls Try.prog 18 #[.pointer (some ⟨cb, 0, none⟩), .int .i64 key] (wr.alloc (.cells #[.int .i64 kd, .int .i64 key, .int .i64 tt, .int .u64 val, .bool dirty] 44)) (CacheOut (wr.alloc (.cells #[.int .i64 kd, .int .i64 key, .int .i64 tt, .int .u64 val, .bool dirty] 44)) cb most O2 (.tuple #[.agg #[.int .i64 xk, .int .u64 xv, .bool xd], .bool fb]) l') from hP1)
          have hRp := Lib.hid (show ∀ (W : World) (R : Nat → Prop), RefX W rb most l R → Calls Try.prog 26 #[.pointer (some ⟨rb, 0, none⟩), .int .i64 key] W (ROut W rb most R (.tuple #[.agg #[.int .i64 xk, .int .u64 xv, .bool xd], .bool fb]) l') from fun W R h => by
            have := rdropX h key (by omega)
            rw [hx, hfb, hl'] at this
            exact this)
          have hSm := Lib.hid (fun W => same22 W ⟨xk, xv, xd⟩)
          simp only [entV] at hSm
          have ebb : (fb == fb) = true := by simp
          clear hP1 hx hfb hl'
          go_wp2_with fail
          refine (hPut.out).mono ?_
          intro e w5 hB5
          obtain ⟨rfl, O5, hP5, hk5⟩ := hP4.out.cache hB5
          have hX := Lib.hid (heap_alloc_new w5 (.cells #[.int .i64 xk, .int .u64 xv, .bool xd] 32))
          have hP6 := Lib.hid (hP5.nil ((Keeps.refl Nil w5).alloc (.cells #[.int .i64 xk, .int .u64 xv, .bool xd] 32)))
          have hnX := Lib.hid (show ¬ R2 w5.heap.size from fun e => by have := hP5.p.r.lt e; omega)
          have q1 := cell_of_heap hP6.out.h 1
          have q3 := cell_of_heap hP6.out.h 3
          have q4 := cell_of_heap hP6.out.h 4
          simp at q1 q3 q4
          have hRef := Lib.hid (hRp.out _ _ hP6.out.p.r)
          clear hB5 hP5 hk5 hPut
          go_wp2_with fail
          refine (hRef.out).mono ?_
          intro e w7 hB7
          obtain ⟨rfl, R7, hP7, hk7⟩ := hP6.out.ref hB7
          have hX7 := hk7.heap hX.out hnX.out
          have x0 := cell_of_heap hX7 0
          have x1 := cell_of_heap hX7 1
          have x2 := cell_of_heap hX7 2
          simp at x0 x1 x2
          have hxl := lt_of_heap hX7
          have hP7' := Lib.hid hP7
          clear hB7 hP7 hk7 hX7 q1 q3 q4 hRef
          go_wp2_with fail
          refine (hSm.out _).mono ?_
          rintro e w8 ⟨rfl, hk8⟩
          have hP8 := Lib.hid (hP7'.out.nil (((Keeps.refl Nil w7).alloc (.cells #[.int .i64 xk, .int .u64 xv, .bool xd] 54)).trans hk8))
          clear hk8
          go_wp2_with fail
          go_meet
          exact ⟨rfl, l', O5, R7, hnl.out, hnm.out, hP8.out.p⟩
      case rest => as_aux_lemma =>
        obtain ⟨rfl, l', O', R', hl', hlm2, hPc⟩ := hcut
        have hPc' := Lib.hid hPc
        clear hPc
        obtain ⟨ra, rc, hRB, hRe⟩ := hPc'.out.r
        have hr1 := cell_of_heap hRB.head 1
        simp at hr1
        have hLn := Lib.hid (show ∀ W, Keeps Nil wc W → Calls Try.prog 17 #[.pointer (some ⟨cb, 0, none⟩)] W fun e w' => e = .returned (.int .i64 (l'.length : Nat)) ∧ w' = W from fun W hW => lenX' (hPc'.out.c.nil hW))
        have e1 : (l'.length != l'.length) = false := by simp
        have e2 : ((l'.length : Int) != (l'.length : Int)) = false := by simp
        obtain ⟨n', hn'⟩ : ∃ n', l'.length = n' := ⟨_, rfl⟩
        rw [hn'] at hr1 hLn e1 e2 hl' hlm2
        have hn'' := Lib.hid hn'
        have hlm3 := Lib.hid hlm2
        clear hRB hn' hRe hlm2
        go_wp2_with fail
        go_quiet ((go_at_call 17; exact Calls.quiet_of_same (hLn.out _ ((Keeps.refl Nil wc).drewN _))))
        go_wp2_with fail
        go_roundw
        case rel => exact ⟨i + 1, l', O', R', by omega, by rw [hn''.out]; omega, by rw [hn''.out]; exact hlm3.out, by go_num, hPc'.out.nil ((Keeps.refl Nil wc).drewN _)⟩
        case measure => simp [intOf]; omega
    · as_aux_lemma =>
      have hcase : (i < n ∧ ¬ i < 120) ∨ ¬ i < n := by omega
      have hl3 := Lib.hid (show l.length ≤ 1000000 by omega)
      obtain ⟨ra, rc, hRB, hRe⟩ := hP'.out.r
      have hRB' := Lib.hid hRB
      obtain ⟨n', hn'⟩ : ∃ n', l.length = n' := ⟨_, rfl⟩
      have hn'' := Lib.hid hn'
      have a1 := cell_of_heap hRB.head 1
      simp at a1
      rw [hn'] at a1
      have hLC := Lib.hid (show ∀ W, Keeps Nil wr W → W.cell? ⟨rb, 1, none⟩ = some (.slice ra n' rc) from fun W hk => hk.cell a1 (fun h => h))
      have hAl := Lib.hid (show ∀ W, Keeps Nil wr W → Calls Try.prog 19 #[.pointer (some ⟨cb, 0, none⟩)] W (AllOut W l) from fun W hk => allX (hP'.out.c.nil hk) hl3.out)
      have hRw := Lib.hid (show ∀ (W : World) (a6 : Option Addr) (cap6 : Nat), Keeps Nil wr W → EntRow W 32 a6 cap6 l → Calls Try.prog 24 #[.slice a6 n' cap6, .slice ra n' rc] W fun e w' => e = .returned (.bool true) ∧ Keeps Nil W w' from fun W a6 cap6 hk hr => by
        have := rows24 hr (RowAt.keeps hRB'.out.row hk (fun _ _ h => h)) hl3.out
        rwa [hn''.out] at this)
      clear hin hRB hRe hn' hli
      rcases hcase with ⟨hi1, hi2⟩ | hi1
      all_goals
        go_wp2_with fail
        go_region_held3 (fun W => W.cell? ⟨rb, 1, none⟩ = some (.slice ra n' rc)) ((refine hLC.out _ ?_; first | exact (Keeps.refl Nil wr).drew | exact k7'.out | exact k6'.out)) (first
          | (go_at_call 19; refine (hAl.out _ (by exact (Keeps.refl Nil wr).drew)).mono ?_; rintro e w6 ⟨v, rfl, a6, cap6, rfl, hr6, hk6, hge6⟩; rw [hn''.out]; have hr6' := Lib.hid hr6; have k6' := Lib.hid ((Keeps.refl Nil wr).drew.trans hk6); clear hr6 hk6 hge6)
          | (go_at_call 24; refine (hRw.out _ _ _ k6'.out hr6'.out).mono ?_; rintro e w7 ⟨rfl, hk7⟩; have k7' := Lib.hid (k6'.out.trans hk7); clear hk7))
        go_wp2_with fail
        go_ret
        exact ⟨rfl, hP'.out.k.trans k7'.out⟩
end Go.Proofs.Ytnickcjkipemmaa
