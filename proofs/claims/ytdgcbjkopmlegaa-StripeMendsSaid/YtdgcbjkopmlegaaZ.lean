/- StripeMends: the walk -/
import Derived.Test.YtdgcbjkopmlegaaY
import Derived.Test.YtdgcbjkopmlegaaP2
import Derived.Deep.CutBlock
namespace Go.Proofs.Ytdgcbjkopmlegaa
open Go.RowKit

attribute [local go_sem ↓] Go.wp_at_zero Go.wp_at_succ

theorem emp_lfz (w : World) : LfZ w empH.sa empH.ba empH.x Nil := LfZ.empty w _ _
theorem plF_ok {row : Int} {m : Nat} (hr : 0 ≤ row) (hm : 1 ≤ m) (hm2 : m ≤ 12) : ∃ p : Nat, plF row ((m : Int) + 1) = (p : Int) ∧ p ≤ m := by
  have h : plOut row ((m : Int) + 1) = false := decide_eq_false (by omega)
  rw [plF_in h]
  have h1 := Int.emod_nonneg row (show (m : Int) + 1 ≠ 0 by omega)
  have h2 := Int.emod_lt_of_pos row (show (0 : Int) < (m : Int) + 1 by omega)
  exact ⟨((m : Int) + 1 - 1 - row % ((m : Int) + 1)).toNat, by omega, by omega⟩

set_option maxHeartbeats 32000000 in
set_option maxRecDepth 100000 in
theorem mends8 {w : World} (S0 N0 T0 row lost : Int) {a : Option Addr} {cap : Nat} {raw : List Lf} (hS0 : -9223372036854775808 ≤ S0) (hS1 : S0 ≤ 9223372036854775807) (hN0 : -9223372036854775808 ≤ N0) (hN1 : N0 ≤ 9223372036854775807) (hr0 : -9223372036854775808 ≤ row) (hr1 : row ≤ 9223372036854775807) (ht0 : -9223372036854775808 ≤ lost) (ht1 : lost ≤ 9223372036854775807) (hL : LeavesAt w a raw) (hok : RawOk raw) (hl : raw.length ≤ 9223372036854775807) :
    Calls Try.prog 8 #[.agg #[.int .i64 S0, .int .i64 N0, .int .i64 T0], .int .i64 row, .slice a raw.length cap, .int .i64 lost] w fun e w' => e = .returned (.bool true) ∧ Keeps Nil w w' := by
  have hL' := Lib.hid hL
  have hok' := Lib.hid hok
  have hSm := Lib.hid (fun W => small12 (w := W) S0 N0 T0 hS0 hS1 hN0 hN1)
  obtain ⟨rw0, hrw⟩ : ∃ ab, absI row = ab := ⟨_, rfl⟩
  have hrw0 : 0 ≤ rw0 := by rw [← hrw]; exact absI_nonneg _
  have hrw1 : rw0 ≤ 9223372036854775807 := by rw [← hrw]; unfold absI; split <;> omega
  have hRw := Lib.hid (fun W => abs_val row rw0 W hr0 hr1 hrw)
  obtain ⟨ab, hab⟩ : ∃ ab, absI lost = ab := ⟨_, rfl⟩
  have hab0 : 0 ≤ ab := by rw [← hab]; exact absI_nonneg _
  have hAb := Lib.hid (fun W => abs_val lost ab W ht0 ht1 hab)
  have hab0' := Lib.hid hab0
  have hrw' := Lib.hid (And.intro hrw0 hrw1)
  clear hL hok hS0 hS1 hN0 hN1 hr0 hr1 ht0 ht1 hrw hab hab0 hrw0 hrw1
  go_enter Try.func8, Try.ntmps8
  go_wp2_with fail
  refine (awake9 _).mono ?_
  rintro e w1 ⟨rfl, hk1⟩
  have hb1 := hk1.heap (heap_alloc_new w (.cells #[.int .i64 S0, .int .i64 N0, .int .i64 T0] 27)) (fun h => h)
  have l0 := cell_of_heap hb1 0
  have l1 := cell_of_heap hb1 1
  have l2 := cell_of_heap hb1 2
  simp at l0 l1 l2
  have hb1' := Lib.hid hb1
  have k01 := Lib.hid (((Keeps.refl Nil w).alloc (.cells #[.int .i64 S0, .int .i64 N0, .int .i64 T0] 27)).trans hk1)
  clear hb1 hk1
  go_wp2_with fail
  refine (hSm.out _).mono ?_
  rintro e w2 ⟨S, n, p1, p2, p3, p4, rfl, hk2⟩
  have hb2 := hk2.heap hb1'.out (fun h => h)
  have l0 := cell_of_heap hb2 0
  have l1 := cell_of_heap hb2 1
  have l2 := cell_of_heap hb2 2
  simp at l0 l1 l2
  have lf0 := frozen_of_heap hb2 0
  have lf1 := frozen_of_heap hb2 1
  have lf2 := frozen_of_heap hb2 2
  have hwl := lt_of_heap hb2
  have hb2' := Lib.hid hb2
  have k02 := Lib.hid (k01.out.trans hk2)
  clear hb2 hk2
  go_wp2_with fail
  have hb3 := heap_setCell_same (heap_setCell_same (heap_setCell_same hb2'.out 0 (.int .i64 S)) 1 (.int .i64 n)) 2 (.int .i64 1)
  have kS := (((Keeps.refl (· = w.heap.size) w2).setCell (p := ⟨w.heap.size, 0, none⟩) (.inl rfl) (.int .i64 S)).setCell (p := ⟨w.heap.size, 1, none⟩) (.inl rfl) (.int .i64 n)).setCell (p := ⟨w.heap.size, 2, none⟩) (.inl rfl) (.int .i64 1)
  obtain ⟨w3, hw3⟩ : ∃ w3, ((w2.setCell ⟨w.heap.size, 0, none⟩ (.int .i64 S)).setCell ⟨w.heap.size, 1, none⟩ (.int .i64 n)).setCell ⟨w.heap.size, 2, none⟩ (.int .i64 1) = w3 := ⟨_, rfl⟩
  rw [hw3] at hb3 kS ⊢
  have k03 := Lib.hid (k02.out.trans' kS (fun j hj => .inr (by rw [hj]; exact Nat.le_refl _)))
  have hb3' : Hid (w3.heap[w.heap.size]? = some (.cells #[.int .i64 S, .int .i64 n, .int .i64 1] 27)) := hb3
  clear hw3 hb3 kS l0 l1 l2 lf0 lf1 lf2 hwl
  refine (right13n S n 1 p1 p2 p4 (hL'.out.nil k03.out) hok'.out hl).mono ?_
  rintro e w4 ⟨L, a1, cap1, Z, rfl, hOL, hR, hm12, hk4, hZn, han⟩
  have hOL' := Lib.hid hOL
  have hR' := Lib.hid hR
  have k04 := Lib.hid (k03.out.trans hk4)
  have hb4 := hk4.heap hb3'.out (fun h => h)
  have hb4' := Lib.hid hb4
  have l0 := cell_of_heap hb4 0
  have l1 := cell_of_heap hb4 1
  have l2 := cell_of_heap hb4 2
  simp at l0 l1 l2
  have hZl := Lib.hid (show ∀ q, (Z q ∨ blk a1 = some q) → q < w4.heap.size from fun q hq => hq.elim (fun h => (hOL.no q h).1) (fun h => RowAt.lt hOL.row h))
  clear hOL hR hk4 hZn han hb4
  obtain ⟨m, hm⟩ : ∃ m, L.length = m := ⟨_, rfl⟩
  rw [hm] at hm12
  rw [hm]
  have hm' := Lib.hid hm
  clear hm
  have y1 : wrap64 ((m : Int) + 1) = (m : Int) + 1 := by unfold wrap64; omega
  by_cases hm0 : m = 0
  · subst hm0
    go_wp2_with fail
    refine (hRw.out _).mono ?_
    rintro e w5 ⟨rfl, rfl⟩
    go_wp2_with fail
    go_ret
    exact ⟨rfl, k04.out⟩
  · have d1 : decide ((m : Int) + 1 < 2) = false := decide_eq_false (by omega)
    obtain ⟨p, hp, hpm⟩ := plF_ok hrw'.out.1 (show 1 ≤ m by omega) hm12
    have hp' := Lib.hid hp
    clear hp
    go_wp2_with fail
    refine (hRw.out _).mono ?_
    rintro e w5 ⟨rfl, rfl⟩
    go_wp2_with fail
    obtain ⟨m1, hm1⟩ : ∃ m1, m + 1 = m1 := ⟨_, rfl⟩
    have e1 : (m : Int) + 1 = (m1 : Int) := by omega
    rw [e1] at hp' ⊢
    have hm1' := Lib.hid hm1
    have m28 := fun W => make28 m1 (by omega) W
    refine (new23 rw0 (m1 : Int) p1 (by omega) p3 (by omega) hrw'.out.2 (w := w4)).mono ?_
    rintro e w5 (⟨hneg, _⟩ | ⟨hpos, ob, sg, bg, ds, rfl, hO5, hk5, hf5⟩)
    · exact absurd hneg (by rw [hp'.out]; omega)
    have hf5' := Lib.hid (show ∀ q, oown ob sg bg ds q → w4.heap.size ≤ q ∧ q < w5.heap.size from fun q hq => ⟨hf5 q hq, hO5.lt hq⟩)
    have hb5 := hk5.heap hb4'.out (fun h => h)
    have hb5' := Lib.hid hb5
    have hwl := Lib.hid (lt_of_heap hb4'.out)
    have hr0 := Lib.hid (made_row m1 (by omega) w5)
    have kr := Lib.hid ((Keeps.refl Nil w5).alloc (.cells (recs lhC (List.replicate m1 empH)).toArray 35))
    have hO6 := Lib.hid (hO5.keeps kr.out (fun _ _ h => h))
    have hOL5 := Lib.hid (hOL'.out.keeps hk5 (fun _ _ h => h))
    have k05 := Lib.hid (k04.out.trans hk5)
    have hs45 := Lib.hid hk5.size
    clear l0 l1 l2 hpos hO5 hk5 hf5 hb5 d1 y1 e1 hm1
    go_wp2_with fail
    obtain ⟨rb, hrb⟩ : ∃ rb, w5.heap.size = rb := ⟨_, rfl⟩
    rw [hrb] at hr0 ⊢
    have hrb' := Lib.hid hrb
    clear hrb m28
    go_loopw [15, 16, 17] (fun c _ _ wx => ∃ i : Nat, i ≤ m ∧ c = .int .i64 i ∧ OpenB wx ob S n rw0 m1 i sg bg ds (sumL S n ((L.map (·.x)).take i)) ∧ RecRow lhC 2 wx 35 (some ⟨rb, 0, none⟩) m1 (alL L p i) ∧ Keeps (fun q => oown ob sg bg ds q) w5 wx) (fun c _ _ _ => m - (intOf c).toNat)
    case atStart => exact ⟨0, Nat.zero_le _, rfl, by rw [List.take_zero]; exact hO6.out, by rw [alL_zero, hm'.out, hm1'.out]; exact hr0.out, kr.out.mono (fun _ h => h.elim)⟩
    case round =>
      obtain ⟨i, hi, rfl, hO, hR2, hK⟩ := hrel
      have hO' := Lib.hid hO
      have hR2' := Lib.hid hR2
      have hK' := Lib.hid hK
      have hZK : ∀ q, (Z q ∨ blk a1 = some q) → ¬ oown ob sg bg ds q := fun q hq e => by have := hZl.out q hq; have := (hf5'.out q e).1; omega
      have hOLr := hOL5.out.keeps hK hZK
      by_cases hlt : i < m
      · obtain ⟨y, hL0⟩ : ∃ y, L[i]? = some y := ⟨L[i]'(by rw [hm'.out]; omega), List.getElem?_eq_getElem _⟩
        have hstep := Lib.hid (alL_step (p := p) hL0)
        obtain ⟨yx, ysa, ysc, yba, ybc⟩ := y
        have hyL : (⟨yx, ysa, ysc, yba, ybc⟩ : LH) ∈ L := List.mem_of_getElem? hL0
        have RY : Right S n yx := hR'.out _ hyL
        obtain ⟨g, hga, hgl, -, hc⟩ := hOLr.row.cell lhC_len hL0
        have c0 := hc 0 _ (by decide) rfl
        have c1 := hc 1 _ (by decide) rfl
        rw [Nat.add_zero] at c0
        simp only at c0 c1
        rw [RY.l1] at c0
        rw [RY.l2] at c1
        have hlf := Lib.hid (show LfZ wr ysa yba yx Z from hOLr.lf _ hyL)
        have RY' := Lib.hid RY
        have hjoin : joinLf (sumL S n ((L.map (·.x)).take i)) yx = sumL S n ((L.map (·.x)).take (i + 1)) := by
          have hil : i < (L.map (·.x)).length := by rw [List.length_map, hm'.out]; exact hlt
          have e : (L.map (·.x))[i] = yx := by
            have h0 : (L.map (·.x))[i]? = some yx := by rw [List.getElem?_map, hL0]; rfl
            rw [List.getElem?_eq_getElem hil] at h0
            exact Option.some.inj h0
          have := sumL_step (S := S) (n := n) hil
          rw [e] at this
          exact this
        obtain ⟨q, hq⟩ : ∃ q, plc p i = q := ⟨_, rfl⟩
        have hqm : q < m1 := by rw [← hq, ← hm1'.out]; exact plc_lt hlt
        have hA := add17_ok (sc := ysc) (bc := ybc) (by omega) (by omega) hO (by have := hm1'.out; omega) (by have := hm1'.out; omega) hrw'.out.2 (by have := hm1'.out; omega) hlf.out (fun q hq => hZK q (.inl hq)) RY'.out
        rw [hp'.out, addAt_nat, hq, hjoin] at hA
        have hA' := Lib.hid hA
        obtain ⟨z, hz⟩ : ∃ z, (alL L p i)[q]? = some z := ⟨(alL L p i)[q]'(by rw [alL_len, hm'.out, hm1'.out]; exact hqm), List.getElem?_eq_getElem _⟩
        obtain ⟨g2, hg2, hgl2, hgf, hgc⟩ := hR2.cell lhC_len hz
        cases hg2
        have hno : ¬ oown ob sg bg ds rb := fun e => by have := (hf5'.out _ e).2; have := hrb'.out; omega
        have hno' := Lib.hid hno
        have hcg : ∀ q, g = q → ¬ oown ob sg bg ds q := fun q e h => hZK q (.inr (by rw [hga, ← e]; rfl)) h
        have c0' := Lib.hid c0
        have c1' := Lib.hid c1
        have hcg' := Lib.hid hcg
        have u0 := Lib.hid (hgc 0 _ (by decide) rfl)
        have u1 := Lib.hid (hgc 1 _ (by decide) rfl)
        have uf := Lib.hid hgf
        have g1 : (0 : Int) ≤ (i : Int) := by omega
        have g2 : (i : Int) < (m : Int) := by omega
        have g3 : (0 : Int) ≤ (q : Int) := by omega
        have g4 : (q : Int) < (m1 : Int) := by omega
        have g5 : ¬ m1 ≤ q := by omega
        have g6 : decide ((q : Int) < 0) = false := decide_eq_false (by omega)
        have hq' := Lib.hid hq
        subst hga
        clear hOLr hL0 RY hc hjoin hA hz hgc hgf hcg hno hyL hq hO hR2 hK hZK
        go_wp2_with fail
        refine (hA'.out).mono ?_
        rintro e w7 ⟨rfl, hO7, hk7⟩
        have c0 := hk7.cell c0'.out (hcg'.out _ rfl)
        have c1 := hk7.cell c1'.out (hcg'.out _ rfl)
        have v0 := hk7.cell u0.out hno'.out
        have v1 := hk7.cell u1.out hno'.out
        rw [Nat.add_zero] at v0
        have hgl7 : rb < w7.heap.size := Nat.lt_of_lt_of_le hgl2 hk7.size
        have vf0 := hk7.frozen (uf.out (q * 2)) hgl2 hno'.out
        have vf1 := hk7.frozen (uf.out (q * 2 + 1)) hgl2 hno'.out
        have hO7' := Lib.hid hO7
        have hk7' := Lib.hid hk7
        clear hO7 hk7
        go_wp2_with fail
        go_roundw
        case rel =>
          have hRw7 := (hR2'.out.keeps hk7'.out (fun g hg e => hno'.out (by simp [blk] at hg; rw [hg]; exact e))).setLh (q := q) (by rw [alL_len, hm'.out, hm1'.out]; exact hqm) ⟨yx, ysa, ysc, yba, ybc⟩
          simp only at hRw7
          rw [RY'.out.l1, RY'.out.l2] at hRw7
          have hst := hstep.out
          rw [hq'.out] at hst
          rw [hst] at hRw7
          have kE : Keeps (· = rb) w7 ((w7.setCell ⟨rb, q * 2, none⟩ (.slice ysa n ysc)).setCell ⟨rb, q * 2 + 1, none⟩ (.slice yba n ybc)) := ((Keeps.refl (· = rb) w7).setCell (.inl rfl) _).setCell (.inl rfl) _
          exact ⟨i + 1, by omega, by go_num, hO7'.out.keeps kE (fun j hj e => hno'.out (e ▸ hj)), hRw7, (hK'.out.trans hk7'.out).trans' kE (fun j hj => .inr (by have := hrb'.out; omega))⟩
        case measure => simp [intOf]; omega
      · obtain rfl : i = m := by omega
        have htk : (L.map (·.x)).take i = L.map (·.x) := List.take_of_length_le (by rw [List.length_map, hm'.out]; exact Nat.le_refl _)
        rw [htk] at hO
        have hRL : ∀ y ∈ L.map (·.x), Right S n y := fun y hy => by
          obtain ⟨h, hh, rfl⟩ := List.mem_map.1 hy
          exact hR'.out h hh
        obtain ⟨X0, hX0⟩ : ∃ X0, sumL S n (L.map (·.x)) = X0 := ⟨_, rfl⟩
        have hR0 : Right S n X0 := hX0 ▸ sumL_right hRL
        rw [hX0] at hO
        have hRL' := Lib.hid hRL
        have hX0' := Lib.hid hX0
        have hR0' := Lib.hid hR0
        have hOLr' := Lib.hid hOLr
        have hZK' := Lib.hid hZK
        have hbr := hK.heap hb5'.out (fun e => by have := (hf5'.out _ e).1; have := hwl.out; omega)
        have hbr' := Lib.hid hbr
        have hPa := par18x p1 (by omega) p3 (by omega) hO hrw'.out.2
        rw [hp'.out] at hPa
        have hPa' := Lib.hid hPa
        have hrbw := Lib.hid (show rb < wr.heap.size from by obtain ⟨g, hg, hgl⟩ := hR2.at (by rw [alL_len]; omega); cases hg; exact hgl)
        clear hO hR2 hK htk hRL hX0 hR0 hOLr hZK hbr hPa
        go_wp2_with fail
        refine (hPa'.out).mono ?_
        rintro e w8 ⟨sp, bp, dp, rfl, hP8, hk8, hf8⟩
        have kx := hk8.alloc (.cells #[.slice (some ⟨sp, 0, none⟩) n n, .slice (some ⟨bp, 0, none⟩) n n] 35)
        have hP9 := Lib.hid (hP8.nil ((Keeps.refl Nil w8).alloc (.cells #[.slice (some ⟨sp, 0, none⟩) n n, .slice (some ⟨bp, 0, none⟩) n n] 35)))
        have hpc := heap_alloc_new w8 (.cells #[.slice (some ⟨sp, 0, none⟩) n n, .slice (some ⟨bp, 0, none⟩) n n] 35)
        have hR9 := RecRow.keeps hR2'.out kx (fun _ _ h => h)
        have hz9 : w8.heap.size < (w8.alloc (.cells #[.slice (some ⟨sp, 0, none⟩) n n, .slice (some ⟨bp, 0, none⟩) n n] 35)).heap.size := by simp
        have hk89 := hk8.size
        obtain ⟨w9, hw9⟩ : ∃ w9, w8.alloc (.cells #[.slice (some ⟨sp, 0, none⟩) n n, .slice (some ⟨bp, 0, none⟩) n n] 35) = w9 := ⟨_, rfl⟩
        rw [hw9] at kx hP9 hpc hR9 hz9
        obtain ⟨g2, hg2, hgl2, hgf, hgc⟩ := hR9.cell lhC_len (alL_at L p i (by rw [hm'.out]; exact hpm))
        cases hg2
        have u0 := hgc 0 _ (by decide) rfl
        have u1 := hgc 1 _ (by decide) rfl
        rw [Nat.add_zero] at u0
        simp only [empH, List.length_nil] at u0 u1
        have uf0 := hgf (p * 2)
        have uf1 := hgf (p * 2 + 1)
        have c0 := cell_of_heap hpc 0
        have c1 := cell_of_heap hpc 1
        simp at c0 c1
        have kx' := Lib.hid kx
        have hR9' := Lib.hid hR9
        have hb9' := Lib.hid (kx.heap hbr'.out (fun h => h))
        have hf9 := Lib.hid (show ∀ q, lown sp bp dp q → wr.heap.size ≤ q from hf8)
        have hmm := hm1'.out
        have g1 : (0 : Int) ≤ (p : Int) := by omega
        have g2 : (p : Int) < (m1 : Int) := by omega
        have g3 : ¬ m1 ≤ p := by omega
        have g4 : decide ((p : Int) < 0) = false := decide_eq_false (by omega)
        have hrb9 : rb < w8.heap.size := by have := hrbw.out; omega
        clear hP8 hk8 hf8 kx hpc hR9 hgf hgc hmm
        go_wp2_with fail
        have hMf : (alL L p i).set p ⟨X0, some ⟨sp, 0, none⟩, n, some ⟨bp, 0, none⟩, n⟩ = L.take p ++ ⟨X0, some ⟨sp, 0, none⟩, n, some ⟨bp, 0, none⟩, n⟩ :: L.drop p := by
          have := alL_full (L := L) (p := p) (by rw [hm'.out]; exact hpm) ⟨X0, some ⟨sp, 0, none⟩, n, some ⟨bp, 0, none⟩, n⟩
          rwa [hm'.out] at this
        obtain ⟨M, hM⟩ : ∃ M, L.take p ++ (⟨X0, some ⟨sp, 0, none⟩, n, some ⟨bp, 0, none⟩, n⟩ : LH) :: L.drop p = M := ⟨_, rfl⟩
        have hR10 := hR9'.out.setLh (q := p) (by rw [alL_len, hm'.out]; omega) ⟨X0, some ⟨sp, 0, none⟩, n, some ⟨bp, 0, none⟩, n⟩
        simp only at hR10
        rw [hR0'.out.l1, hR0'.out.l2, hMf, hM] at hR10
        have hMx : M.map (·.x) = (L.map (·.x)).take p ++ X0 :: (L.map (·.x)).drop p := by rw [← hM]; simp [List.map_take, List.map_drop]
        have hMl : M.length = m1 := by rw [← hM, ← hm1'.out, ← hm'.out]; simp; have := hm'.out; omega
        have hML := Lib.hid (show ∀ W, Keeps (· = rb) w9 W → ∀ h ∈ M, LfAt W h.sa h.ba h.x from fun W hk h hh => by
          have hrb1 := hrb'.out
          have hs1 := hs45.out
          have hLm : h ∈ L → LfAt W h.sa h.ba h.x := fun hl => (((hOLr'.out.lf h hl).keeps kx'.out (fun _ _ h => h)).keeps hk (fun q hq e => by have := hZl.out q (.inl hq); omega)).at
          rw [← hM] at hh
          rcases List.mem_append.1 hh with h1 | h1
          · exact hLm (List.mem_of_mem_take h1)
          · rcases List.mem_cons.1 h1 with h2 | h2
            · rw [h2]
              exact (hP9.out.keeps hk (fun q hq e => by have := hf9.out q hq; have := hrbw.out; omega)).at
            · exact hLm (List.mem_of_mem_drop h2))
        obtain ⟨k, htt, hkm⟩ : ∃ k : Nat, ab.tmod (m1 : Int) = k ∧ k < m1 := by
          have := hab0'.out
          refine ⟨(ab % (m1 : Int)).toNat, ?_, ?_⟩
          · rw [Int.tmod_eq_emod_of_nonneg this]
            have := Int.emod_nonneg ab (show (m1 : Int) ≠ 0 by omega)
            omega
          · have := Int.emod_lt_of_pos ab (show (0 : Int) < m1 by omega)
            have := Int.emod_nonneg ab (show (m1 : Int) ≠ 0 by omega)
            omega
        obtain ⟨zz, hz⟩ : ∃ z, M[k]? = some z := ⟨M[k]'(by rw [hMl]; exact hkm), List.getElem?_eq_getElem _⟩
        have hzx : (M.map (·.x))[k]? = some zz.x := by rw [List.getElem?_map, hz]; rfl
        rw [hMx, ← hX0'.out] at hzx
        obtain ⟨RZ, hsum, hless⟩ := lost_one hRL'.out hzx
        rw [hX0'.out, ← hMx] at hsum hless
        obtain ⟨g5, hg5, hgl5, hgf5, hgc5⟩ := hR10.cell lhC_len hz
        cases hg5
        obtain ⟨zx, zsa, zsc, zba, zbc⟩ := zz
        simp only at RZ hsum
        have s0 := hgc5 0 _ (by decide) rfl
        have s1 := hgc5 1 _ (by decide) rfl
        simp only [Nat.add_zero] at s0 s1
        rw [RZ.l1] at s0
        rw [RZ.l2] at s1
        have sf0 := hgf5 (k * 2)
        have sf1 := hgf5 (k * 2 + 1)
        have k910 : Keeps (· = rb) w9 ((w9.setCell ⟨rb, p * 2, none⟩ (.slice (some ⟨sp, 0, none⟩) n n)).setCell ⟨rb, p * 2 + 1, none⟩ (.slice (some ⟨bp, 0, none⟩) n n)) := ((Keeps.refl (· = rb) w9).setCell (.inl rfl) _).setCell (.inl rfl) _
        obtain ⟨w10, hw10⟩ : ∃ w10, (w9.setCell ⟨rb, p * 2, none⟩ (.slice (some ⟨sp, 0, none⟩) n n)).setCell ⟨rb, p * 2 + 1, none⟩ (.slice (some ⟨bp, 0, none⟩) n n) = w10 := ⟨_, rfl⟩
        rw [hw10] at hR10 hgl5 s0 s1 sf0 sf1 k910 ⊢
        have hRM : ∀ h ∈ M, Right S n h.x := fun h hh => by
          have : h.x ∈ M.map (·.x) := List.mem_map.2 ⟨h, hh, rfl⟩
          rw [hMx] at this
          rcases List.mem_append.1 this with h1 | h1
          · exact hRL'.out _ (List.mem_of_mem_take h1)
          · rcases List.mem_cons.1 h1 with h2 | h2
            · rw [h2]; exact hR0'.out
            · exact hRL'.out _ (List.mem_of_mem_drop h2)
        have hC := Lib.hid (show ∀ W, RecRow lhC 2 W 35 (some ⟨rb, 0, none⟩) m1 (M.set k empH) → (∀ h ∈ M, LfAt W h.sa h.ba h.x) → Calls Try.prog 21 #[.agg #[.int .i64 S, .int .i64 n, .int .i64 1], .slice (some ⟨rb, 0, none⟩) m1 m1, .int .i64 k] W (GenZ W zx n n 0) from fun W hr hA => by
          have hlen : ((M.set k empH).map (·.x)).length = m1 := by simp [hMl]
          have hmm := hm1'.out
          have h1 := leaves_row hr (fun h hh => (List.mem_or_eq_of_mem_set hh).elim (hA h) (fun e => by rw [e]; exact LfAt.empty _ _ _))
          have h2 := mend21_good (cap := m1) (S : Int) (n : Int) 1 k h1 (fun y hy => by
            obtain ⟨h, hh, rfl⟩ := List.mem_map.1 hy
            rcases List.mem_or_eq_of_mem_set hh with h3 | h3
            · exact (hRM h h3).ok (by omega) (by omega)
            · rw [h3]; exact ⟨by simp [empH], by simp [empH], fun i hi => by simp [empH] at hi⟩) (by rw [hlen]; omega) (by rw [hlen]; exact Nat.le_refl _) (by omega) (by rw [hlen]; exact hkm) (by rw [hlen]; omega)
          rw [hlen, ← lessOne_map, lessOne_set, lessOne_map, sumR_good (decide_eq_true ⟨by omega, by omega, by omega, by omega⟩), right_all hless, hsum] at h2
          exact h2.mono (fun e w' h => h.letters rfl RZ.l1 RZ.l2 rfl))
        have hsame := Lib.hid (show ∀ (W : World) (ua ub va vb : Option Addr) (uc ud vc vd : Nat), LfAt W ua ub zx → LfAt W va vb zx → Calls Try.prog 16 #[.agg #[.slice ua n uc, .slice ub n ud], .agg #[.slice va n vc, .slice vb n vd]] W fun e w' => e = .returned (.bool true) ∧ Keeps Nil W w' from fun W ua ub va vb uc ud vc vd h1 h2 => by
          have := same16 (sc := uc) (bc := ud) (sd := vc) (bd := vd) h1 h2 (RZ.ok (by omega) (by omega))
          rw [RZ.l1, RZ.l2] at this
          exact this)
        have hzM := Lib.hid (show (⟨zx, zsa, zsc, zba, zbc⟩ : LH) ∈ M from List.mem_of_getElem? hz)
        have hR11 := hR10.setLh (q := k) (by rw [hMl]; exact hkm) empH
        have kB : Keeps (· = rb) w10 ((w10.setCell ⟨rb, k * 2, none⟩ (.slice none 0 0)).setCell ⟨rb, k * 2 + 1, none⟩ (.slice none 0 0)) := ((Keeps.refl (· = rb) _).setCell (.inl rfl) _).setCell (.inl rfl) _
        have hY12 : (((w10.setCell ⟨rb, k * 2, none⟩ (.slice none 0 0)).setCell ⟨rb, k * 2 + 1, none⟩ (.slice none 0 0)).alloc (.cells #[.slice zsa n zsc, .slice zba n zbc] 35)).heap[w10.heap.size]? = some (.cells #[.slice zsa n zsc, .slice zba n zbc] 35) := hp_at0 (by simp [World.setCell])
        have k912 := k910.trans (kB.alloc (.cells #[.slice zsa n zsc, .slice zba n zbc] 35))
        have hR12 : RecRow lhC 2 (((w10.setCell ⟨rb, k * 2, none⟩ (.slice none 0 0)).setCell ⟨rb, k * 2 + 1, none⟩ (.slice none 0 0)).alloc (.cells #[.slice zsa n zsc, .slice zba n zbc] 35)) 35 (some ⟨rb, 0, none⟩) m1 (M.set k empH) := RecRow.keeps hR11 ((Keeps.refl Nil _).alloc _) (fun _ _ h => h)
        obtain ⟨w12, hw12⟩ : ∃ w12, ((w10.setCell ⟨rb, k * 2, none⟩ (.slice none 0 0)).setCell ⟨rb, k * 2 + 1, none⟩ (.slice none 0 0)).alloc (.cells #[.slice zsa n zsc, .slice zba n zbc] 35) = w12 := ⟨_, rfl⟩
        rw [hw12] at hY12 k912 hR12
        have hb10 := k910.heap hb9'.out (by have := hwl.out; have := hs45.out; have := hrb'.out; omega)
        have l0 := cell_of_heap hb10 0
        have l1 := cell_of_heap hb10 1
        have l2 := cell_of_heap hb10 2
        simp at l0 l1 l2
        have hC12 := Lib.hid (hC.out w12 hR12 (hML.out w12 k912))
        have hY12' := Lib.hid hY12
        have k912' := Lib.hid k912
        have hwr := lt_of_heap hb10
        have hwn : ¬ w.heap.size = rb := by have := hwl.out; have := hs45.out; have := hrb'.out; omega
        have hmz : (m1 == 0) = false := by have := hm1'.out; simp; omega
        have hmz2 : ((m1 : Int) == 0) = false := by have := hm1'.out; simp; omega
        have f1 : (0 : Int) ≤ (k : Int) := by omega
        have f2 : (k : Int) < (m1 : Int) := by omega
        have hw12' := Lib.hid hw12
        clear hMf hM hR10 hMx hMl hz hzx RZ hsum hless hgf5 hgc5 k910 hw10 hRM hC hR11 kB hR12 hb10 hY12 k912 hw12 c0 c1 u0 u1 uf0 uf1 g1 g2 g3 g4
        refine (hAb.out _).mono ?_
        rintro e w11 ⟨rfl, rfl⟩
        go_wp2_with fail
        rw [hw12'.out]
        refine (hC12.out).mono ?_
        rintro e w13 ⟨ta, tc, tb, td, Z5, rfl, hZ5, _, hk13⟩
        have kC := hk13.alloc (.cells #[.slice ta n tc, .slice tb n td] 35)
        have hY14 := kC.heap hY12'.out (fun h => h)
        have hX14 := Lib.hid ((hZ5.keeps ((Keeps.refl Nil w13).alloc (.cells #[.slice ta n tc, .slice tb n td] 35)) (fun _ _ h => h)).at)
        have hW14 := Lib.hid (hML.out _ (k912'.out.trans (kC.mono (fun _ h => h.elim))) _ hzM.out)
        have y0 := cell_of_heap hY14 0
        have y1 := cell_of_heap hY14 1
        simp at y0 y1
        have kC' := Lib.hid kC
        clear kC hY14 hZ5 hk13 l0 l1 l2 s0 s1 sf0 sf1
        go_wp2_with fail
        refine (hsame.out _ _ _ _ _ _ _ _ _ hX14.out hW14.out).mono ?_
        rintro e w15 ⟨rfl, hk15⟩
        go_wp2_with fail
        go_ret
        refine ⟨rfl, ?_⟩
        have hb := hrb'.out
        have hs := hs45.out
        have hw := hwl.out
        exact ((((k05.out.trans' hK'.out (fun q hq => .inr (by have := (hf5'.out q hq).1; omega))).trans kx'.out).trans' k912'.out (fun q hq => .inr (by omega))).trans kC'.out).trans hk15
end Go.Proofs.Ytdgcbjkopmlegaa
