/- StripeNone: the walk -/
import Derived.Test.YtdgcbjkopmlegaaU
namespace Go.Proofs.Ytdgcbjkopmlegaa
open Go.RowKit

attribute [local go_sem ↓] Go.wp_at_zero Go.wp_at_succ

set_option maxHeartbeats 16000000 in
set_option maxRecDepth 100000 in
theorem none5 {w : World} (S0 N0 T0 : Int) {a : Option Addr} {cap : Nat} {raw : List Lf} (hS0 : -9223372036854775808 ≤ S0) (hS1 : S0 ≤ 9223372036854775807) (hN0 : -9223372036854775808 ≤ N0) (hN1 : N0 ≤ 9223372036854775807) (hL : LeavesAt w a raw) (hok : RawOk raw) (hl : raw.length ≤ 9223372036854775807) :
    Calls Try.prog 5 #[.agg #[.int .i64 S0, .int .i64 N0, .int .i64 T0], .slice a raw.length cap] w fun e w' => e = .returned (.bool true) ∧ Keeps Nil w w' := by
  have hL' := Lib.hid hL
  have hok' := Lib.hid hok
  have hSm := Lib.hid (fun W => small12 (w := W) S0 N0 T0 hS0 hS1 hN0 hN1)
  clear hL hok hS0 hS1 hN0 hN1
  go_enter Try.func5, Try.ntmps5
  go_wp2_with fail
  refine (awake9 _).mono ?_
  rintro e w1 ⟨rfl, hk1⟩
  have hb1 := hk1.heap (heap_alloc_new w (.cells #[.int .i64 S0, .int .i64 N0, .int .i64 T0] 27)) (fun h => h)
  have l0 := cell_of_heap hb1 0
  have l1 := cell_of_heap hb1 1
  have l2 := cell_of_heap hb1 2
  simp at l0 l1 l2
  have hb1' := Lib.hid hb1
  have k01 := Lib.hid (((Keeps.refl Nil w).alloc (.cells #[.int .i64 S0, .int .i64 N0, .int .i64 T0] 27)).trans hk1)
  clear hb1 hk1
  go_wp2_with fail
  refine (hSm.out _).mono ?_
  rintro e w2 ⟨S, n, p1, p2, p3, p4, rfl, hk2⟩
  have hb2 := hk2.heap hb1'.out (fun h => h)
  have l0 := cell_of_heap hb2 0
  have l1 := cell_of_heap hb2 1
  have l2 := cell_of_heap hb2 2
  simp at l0 l1 l2
  have lf0 := frozen_of_heap hb2 0
  have lf1 := frozen_of_heap hb2 1
  have lf2 := frozen_of_heap hb2 2
  have hwl := lt_of_heap hb2
  have hb2' := Lib.hid hb2
  have k02 := Lib.hid (k01.out.trans hk2)
  clear hb2 hk2
  go_wp2_with fail
  have hb3 := heap_setCell_same (heap_setCell_same (heap_setCell_same hb2'.out 0 (.int .i64 S)) 1 (.int .i64 n)) 2 (.int .i64 1)
  have kS := (((Keeps.refl (· = w.heap.size) w2).setCell (p := ⟨w.heap.size, 0, none⟩) (.inl rfl) (.int .i64 S)).setCell (p := ⟨w.heap.size, 1, none⟩) (.inl rfl) (.int .i64 n)).setCell (p := ⟨w.heap.size, 2, none⟩) (.inl rfl) (.int .i64 1)
  obtain ⟨w3, hw3⟩ : ∃ w3, ((w2.setCell ⟨w.heap.size, 0, none⟩ (.int .i64 S)).setCell ⟨w.heap.size, 1, none⟩ (.int .i64 n)).setCell ⟨w.heap.size, 2, none⟩ (.int .i64 1) = w3 := ⟨_, rfl⟩
  rw [hw3] at hb3 kS ⊢
  have k03 := Lib.hid (k02.out.trans' kS (fun j hj => .inr (by rw [hj]; exact Nat.le_refl _)))
  have hb3' : Hid (w3.heap[w.heap.size]? = some (.cells #[.int .i64 S, .int .i64 n, .int .i64 1] 27)) := hb3
  clear hw3 hb3 kS l0 l1 l2 lf0 lf1 lf2
  refine (right13 S n 1 p1 p2 p4 (hL'.out.nil k03.out) hok'.out hl).mono ?_
  rintro e w4 ⟨L, a1, cap1, Z, rfl, hO, hR, hm12, hk4⟩
  have hb4 := hk4.heap hb3'.out (fun h => h)
  have hb4' := Lib.hid hb4
  have l0 := cell_of_heap hb4 0
  have l1 := cell_of_heap hb4 1
  have l2 := cell_of_heap hb4 2
  simp at l0 l1 l2
  have k04 := Lib.hid (k03.out.trans hk4)
  have hR' := Lib.hid hR
  have hO' := Lib.hid hO
  obtain ⟨m, hm⟩ : ∃ m, L.length = m := ⟨_, rfl⟩
  rw [hm] at hm12
  rw [hm]
  have hm' := Lib.hid hm
  clear hb4 hk4 hR hO hm
  have hSum := Lib.hid (show ∀ (W : World) (b : Option Addr) (c k : Nat) (Ls : List Lf), LeavesAt W b Ls → (∀ x ∈ Ls, Right S n x) → Ls.length = k → k ≤ 1000 → Calls Try.prog 15 #[.agg #[.int .i64 S, .int .i64 n, .int .i64 1], .slice b k c] W (SumOut W S n (some (sumL S n Ls))) from fun W b c k Ls h1 h2 h3 h4 => by
    subst h3
    have := sum15_good (cap := c) (S : Int) (n : Int) S n 1 rfl rfl p1 (by omega) p3 (by omega) h1 (fun x hx => (h2 x hx).ok (by omega) (by omega)) (by omega)
    rw [right_all h2] at this
    exact this)
  have hs0 := Lib.hid (hSum.out w4 none 0 0 [] (fun i hi => by simp at hi) (fun x hx => by simp at hx) rfl (by omega))
  go_wp2_with fail
  refine (hs0.out).mono ?_
  rintro e wA (⟨h, _⟩ | ⟨x, sg, bg, ds, hx, rfl, hOA, hxl, hkA, hgA⟩)
  · cases h
  cases hx
  have hz : sumL S n [] = zeroLf S n := rfl
  rw [hz] at hOA
  clear hz
  have hbA := hkA.heap hb4'.out (fun h => h)
  have l0 := cell_of_heap hbA 0
  have l1 := cell_of_heap hbA 1
  have l2 := cell_of_heap hbA 2
  simp at l0 l1 l2
  have hbA' := Lib.hid hbA
  have hOA' := Lib.hid hOA
  have hgA' := Lib.hid hgA
  have k0A := Lib.hid (k04.out.trans hkA)
  have hwA := lt_of_heap hbA
  have hO' := Lib.hid (hO'.out.keeps hkA (fun _ _ h => h))
  clear hbA hOA hgA hkA hxl hs0
  have hvA := heap_alloc_new wA (.cells #[.slice (some ⟨sg, 0, none⟩) n n, .slice (some ⟨bg, 0, none⟩) n n] 35)
  have hvA' := Lib.hid hvA
  have kvA := Lib.hid ((Keeps.refl Nil wA).alloc (.cells #[.slice (some ⟨sg, 0, none⟩) n n, .slice (some ⟨bg, 0, none⟩) n n] 35))
  have hbV := Lib.hid (kvA.out.heap hbA'.out (fun h => h))
  clear hvA
  obtain ⟨s, hs⟩ : ∃ s, strOfNums (zeroD S) = s := ⟨_, rfl⟩
  have hne : ∀ W, (binOp .neq 44 (.agg #[.int .u32 0, .int .i64 0, .int .u64 0]) (.agg #[.int .u32 0, .int .i64 0, .int .u64 0])).run Try.prog W = .ok (.bool false) W := fun W => neq44 sl0 W
  have hns := fun W => run_neq_str s W
  have hmk := make45 S (by omega)
  go_wp2_with fail
  go_loopw [9] (fun c wx => ∃ q : Nat, q ≤ n ∧ c = .int .i64 q ∧ Keeps Nil (wA.alloc (.cells #[.slice (some ⟨sg, 0, none⟩) n n, .slice (some ⟨bg, 0, none⟩) n n] 35)) wx) (fun c _ => n - (intOf c).toNat)
  case atStart => exact ⟨0, Nat.zero_le _, rfl, Keeps.refl _ _⟩
  case round =>
    obtain ⟨q, hq, rfl, hK⟩ := hrel
    have hK' := Lib.hid hK
    have hb := hK.heap hbV.out (fun h => h)
    have l0 := cell_of_heap hb 0
    have l1 := cell_of_heap hb 1
    simp at l0 l1
    by_cases hlt : q < n
    · have hv := hK.heap hvA'.out (fun h => h)
      have v0 := cell_of_heap hv 0
      have v1 := cell_of_heap hv 1
      simp at v0 v1
      have hOr := (hOA'.out.nil kvA.out).nil hK
      obtain ⟨c0, c1, c2⟩ := hOr.slot (q := q) (s := sl0) (by simp [zeroLf, hlt])
      obtain ⟨d, hd⟩ : ∃ d, ds[q]? = some d := ⟨ds[q]'(by rw [hOr.n1]; simpa [zeroLf] using hlt), List.getElem?_eq_getElem _⟩
      have c3 := hOr.row hd
      obtain ⟨r, hr1, hr2, hr3⟩ := hOr.da q d hd
      have hr4 : r = zeroD S := by simpa [zeroLf, hlt] using hr1.symm
      rw [hr4] at hr3
      have hlz : (zeroD S).length = S := by simp [zeroD]
      have hat : ∀ (W : World) (k : Nat), W.heap[k]? = some (.cells (dcells (zeroD S)).toArray 5) → (convert 45 9 (.slice (some ⟨k, 0, none⟩) S S)).run Try.prog W = .ok (.string s) W := fun W k hk => by
        have := run_str (cap := S) (show NumsAt .u8 W (some ⟨k, 0, none⟩) (zeroD S) from fun j hj => ⟨k, 0, rfl, by rw [Nat.zero_add, cell_of_heap hk j]; simp [dcells, gi_eq hj, hj]⟩)
        rw [hlz, hs] at this
        exact this
      have hLC := Lib.hid (show ∀ (W : World), Keeps Nil wr W → W.cell? ⟨sg, q * 3, none⟩ = some (.int .u32 0) ∧ W.cell? ⟨sg, q * 3 + 1, none⟩ = some (.int .i64 0) ∧ W.cell? ⟨sg, q * 3 + 2, none⟩ = some (.int .u64 0) ∧ W.cell? ⟨bg, q, none⟩ = some (.slice (some ⟨d, 0, none⟩) S S) ∧ W.cell? ⟨wA.heap.size, 0, none⟩ = some (.slice (some ⟨sg, 0, none⟩) n n) ∧ W.cell? ⟨wA.heap.size, 1, none⟩ = some (.slice (some ⟨bg, 0, none⟩) n n) ∧ W.cell? ⟨w.heap.size, 0, none⟩ = some (.int .i64 S) ∧ (convert 45 9 (.slice (some ⟨d, 0, none⟩) S S)).run Try.prog W = .ok (.string s) W from fun W hk => ⟨hk.cell c0 (fun h => h), hk.cell c1 (fun h => h), hk.cell c2 (fun h => h), hk.cell c3 (fun h => h), hk.cell v0 (fun h => h), hk.cell v1 (fun h => h), hk.cell l0 (fun h => h), hat W d (hk.heap hr3 (fun h => h))⟩)
      have g2 := hat (wr.alloc (.cells (dcells (zeroD S)).toArray 5)) _ (heap_at0 rfl)
      have g3 := hat (wr.alloc (.cells (dcells (zeroD S)).toArray 5)).drew _ (heap_at rfl)
      have d1 : (0 : Int) ≤ (q : Int) := by omega
      have d2 : (q : Int) < (n : Int) := by omega
      clear hK hb hv hOr hd hr1 hr2 hr3 hr4 hat
      go_wp2_with fail
      have K1 : Keeps Nil wr wr.drew := (Keeps.refl _ _).drew
      have K2 : Keeps Nil wr (wr.alloc (.cells (dcells (zeroD S)).toArray 5)) := (Keeps.refl _ _).alloc _
      have K3 : Keeps Nil wr (wr.alloc (.cells (dcells (zeroD S)).toArray 5)).drew := K2.drew
      obtain ⟨a10, a11, a12, a13, a14, a15, a16, a17⟩ := hLC.out _ K1
      obtain ⟨a20, a21, a22, a23, a24, a25, a26, a27⟩ := hLC.out _ K2
      obtain ⟨a30, a31, a32, a33, a34, a35, a36, a37⟩ := hLC.out _ K3
      clear K1 K2 K3
      go_region_with (fail)
      all_goals
        go_wp2_with fail
        go_roundw
        case rel => exact ⟨q + 1, by omega, by go_num, by refine hK'.out.trans ?_; repeat (first | exact Keeps.refl _ _ | with_reducible refine Keeps.drew ?_ | with_reducible refine Keeps.alloc ?_ _)⟩
        case measure => simp [intOf]; omega
    · have hv := hK.heap hvA'.out (fun h => h)
      have v0 := cell_of_heap hv 0
      have v1 := cell_of_heap hv 1
      simp at v0 v1
      have hb' := Lib.hid hb
      clear hK hb hv
      go_wp2_with fail
      refine (add17 _ _ _ _ _ _ _).mono ?_
      rintro e W1 ⟨rfl, hk1⟩
      go_wp2_with fail
      refine (par18 _).mono ?_
      rintro e W2 ⟨rfl, hk2⟩
      have kr2 := Lib.hid (hk1.trans hk2)
      clear hk1 hk2
      go_wp2_with fail
      refine (left19 _).mono ?_
      rintro e W3 ⟨rfl, rfl⟩
      by_cases hm0 : m = 0
      · subst hm0
        go_wp2_with fail
        go_ret
        exact ⟨rfl, (((k0A.out.trans kvA.out).trans hK'.out).trans kr2.out).alloc _⟩
      · have e1 : ((m : Int) == 0) = false := by simpa using hm0
        have e1' : (m == 0) = false := by simpa using hm0
        obtain ⟨y, hL0⟩ : ∃ y, L[0]? = some y := ⟨L[0]'(by rw [hm'.out]; omega), List.getElem?_eq_getElem _⟩
        obtain ⟨yx, ysa, ysc, yba, ybc⟩ := y
        have hyL : (⟨yx, ysa, ysc, yba, ybc⟩ : LH) ∈ L := List.mem_of_getElem? hL0
        have RY : Right S n yx := hR'.out _ hyL
        have kT := Lib.hid ((((k0A.out.trans kvA.out).trans hK'.out).trans kr2.out).alloc (.cells #[.slice none 0 0, .slice none 0 0] 35))
        have hOW := hO'.out.keeps (((kvA.out.trans hK'.out).trans kr2.out).alloc (.cells #[.slice none 0 0, .slice none 0 0] 35)) (fun _ _ h => h)
        have hbT := (kr2.out.alloc (.cells #[.slice none 0 0, .slice none 0 0] 35)).heap hb'.out (fun h => h)
        obtain ⟨g, hga, hgl, -, hc⟩ := hOW.row.cell lhC_len hL0
        have c0 := hc 0 _ (by decide) rfl
        have c1 := hc 1 _ (by decide) rfl
        simp only [Nat.zero_mul, Nat.zero_add, Nat.add_zero] at c0 c1
        rw [RY.l1] at c0
        rw [RY.l2] at c1
        have hcap : L.length ≤ cap1 := by
          rcases RowAt.form hOW.row with ⟨h1, _⟩ | ⟨g2, cur, h1, hle, _⟩
          · rw [hga] at h1; cases h1
          · omega
        subst hga
        have t0 := cell_of_heap hbT 0
        have t1 := cell_of_heap hbT 1
        have t2 := cell_of_heap hbT 2
        simp at t0 t1 t2
        have hOW' := Lib.hid hOW
        have hLC2 := Lib.hid (show ∀ W, Keeps Nil (W2.alloc (.cells #[.slice none 0 0, .slice none 0 0] 35)) W → W.cell? ⟨w.heap.size, 0, none⟩ = some (.int .i64 S) ∧ W.cell? ⟨w.heap.size, 1, none⟩ = some (.int .i64 n) ∧ W.cell? ⟨w.heap.size, 2, none⟩ = some (.int .i64 1) from fun W hk => ⟨hk.cell t0 (fun h => h), hk.cell t1 (fun h => h), hk.cell t2 (fun h => h)⟩)
        have hLC3 := Lib.hid (show ∀ W, Keeps Nil (W2.alloc (.cells #[.slice none 0 0, .slice none 0 0] 35)) W → W.cell? ⟨g, 0, none⟩ = some (.slice ysa n ysc) ∧ W.cell? ⟨g, 1, none⟩ = some (.slice yba n ybc) ∧ LfAt W ysa yba yx from fun W hk => ⟨hk.cell c0 (fun h => h), hk.cell c1 (fun h => h), ((hOW'.out.keeps hk (fun _ _ h => h)).lf _ hyL).at⟩)
        have hs1 := Lib.hid (show ∀ W, Keeps Nil (W2.alloc (.cells #[.slice none 0 0, .slice none 0 0] 35)) W → Calls Try.prog 15 #[.agg #[.int .i64 S, .int .i64 n, .int .i64 1], .slice (some ⟨g, 0, none⟩) 1 cap1] W (SumOut W S n (some yx)) from fun W hk => by
          have hlv := (hOW'.out.keeps hk (fun _ _ h => h)).leaves
          have e0 : ∀ h, (L.map (·.x))[0]'h = yx := fun h => by
            obtain ⟨_, h2⟩ := List.getElem?_eq_some_iff.1 hL0
            rw [List.getElem_map, h2]
          have := hSum.out W (some ⟨g, 0, none⟩) cap1 1 [yx] (fun i hi => by
            have hi0 : i = 0 := by simp at hi; omega
            subst hi0
            have h0 := hlv 0 (by rw [List.length_map, hm'.out]; omega)
            rw [e0] at h0
            exact h0) (fun x hx => by rw [List.mem_singleton.1 hx]; exact RY) rfl (by omega)
          rw [sumL_one RY] at this
          exact this)
        have hSame := Lib.hid (show ∀ (W : World) (s1 b1 : Nat) (d1 : List Nat), OwnLf W S s1 b1 d1 yx → LfAt W ysa yba yx → Calls Try.prog 16 #[.agg #[.slice (some ⟨s1, 0, none⟩) n n, .slice (some ⟨b1, 0, none⟩) n n], .agg #[.slice ysa n ysc, .slice yba n ybc]] W (fun e w' => e = .returned (.bool true) ∧ Keeps Nil W w') from fun W s1 b1 d1 h1 h2 => by
          have := same16 (sc := n) (bc := n) (sd := ysc) (bd := ybc) h1.at h2 (RY.ok (by omega) (by omega))
          rw [RY.l1, RY.l2] at this
          exact this)
        have d5 : (1 : Int) ≤ (cap1 : Int) := by have := hm'.out; omega
        have d6 : 1 ≤ cap1 := by have := hm'.out; omega
        have d7 : (0 : Int) < (m : Int) := by omega
        have d8 : 0 < m := by omega
        clear hOW hc c0 c1 RY
        go_wp2_with fail
        go_region_held3 (fun W => W.cell? ⟨w.heap.size, 0, none⟩ = some (.int .i64 S) ∧ W.cell? ⟨w.heap.size, 1, none⟩ = some (.int .i64 n) ∧ W.cell? ⟨w.heap.size, 2, none⟩ = some (.int .i64 1)) ((refine hLC2.out _ ?_; (repeat (first | exact Keeps.refl _ _ | exact hK9'.out | with_reducible refine Keeps.drew ?_ | with_reducible refine Keeps.alloc ?_ _ | refine Keeps.setCell (p := ⟨_, _, none⟩) ?_ (.inr (by simp only [heap_alloc_size]; omega)) _)))) ((go_at_call 15; refine (hs1.out _ (by repeat (first | exact Keeps.refl Nil _ | with_reducible refine Keeps.drew ?_ | with_reducible refine Keeps.alloc ?_ _))).mono ?_; rintro e w9 (⟨h, _⟩ | ⟨x, sg3, bg3, ds3, hx, rfl, hOC, hxl, hk9, hg9⟩); (cases h); cases hx; have hK9 : Keeps Nil (W2.alloc (.cells #[.slice none 0 0, .slice none 0 0] 35)) w9 := (by first | exact hk9 | exact ((Keeps.refl Nil _).alloc _).trans hk9 | exact ((Keeps.refl Nil _).alloc _).drew.trans hk9 | exact (Keeps.refl Nil _).drew.trans hk9); have hK9' := Lib.hid hK9; have hs9 := hK9.size; obtain ⟨r0, r1, r2⟩ := hLC2.out w9 hK9; have hOC' := Lib.hid hOC; have hg9' := Lib.hid hg9; (first | (have hz9 : w9.heap[W2.heap.size + 1]? = some (.cells #[.slice none 0 0, .slice none 0 0] 35) := hk9.heap (heap_at0 (heap_alloc_size _ _)) (fun h => h); have z0 := cell_of_heap hz9 0; have z1 := cell_of_heap hz9 1; simp at z0 z1; have zf0 := frozen_of_heap hz9 0; have zf1 := frozen_of_heap hz9 1; have zl := lt_of_heap hz9; have hz9' := Lib.hid hz9; clear hz9) | skip); clear hOC hg9 hK9 hk9 hxl))
        all_goals
          clear r0 r1 r2
          first
          | (have hz : W2.heap.size + 1 < w9.heap.size := zl
             have hc : ((w9.setCell ⟨W2.heap.size + 1, 0, none⟩ (.slice (some ⟨sg3, 0, none⟩) n n)).setCell ⟨W2.heap.size + 1, 1, none⟩ (.slice (some ⟨bg3, 0, none⟩) n n)).heap[W2.heap.size + 1]? = some (.cells #[.slice (some ⟨sg3, 0, none⟩) n n, .slice (some ⟨bg3, 0, none⟩) n n] 35) := heap_setCell_same (heap_setCell_same hz9'.out 0 (.slice (some ⟨sg3, 0, none⟩) n n)) 1 (.slice (some ⟨bg3, 0, none⟩) n n)
             have kk := ((Keeps.refl (· = W2.heap.size + 1) w9).setCell (p := ⟨W2.heap.size + 1, 0, none⟩) (.inl rfl) (.slice (some ⟨sg3, 0, none⟩) n n)).setCell (p := ⟨W2.heap.size + 1, 1, none⟩) (.inl rfl) (.slice (some ⟨bg3, 0, none⟩) n n)
             have hOD := hOC'.out.keeps kk (fun k hk e => by have := hg9'.out k hk; simp only [heap_alloc_size, heap_drew] at this; omega)
             have kT2 := hK9'.out.trans' kk (fun j hj => .inr (Nat.le_of_eq (by rw [hj, heap_alloc_size])))
             generalize ((w9.setCell ⟨W2.heap.size + 1, 0, none⟩ (.slice (some ⟨sg3, 0, none⟩) n n)).setCell ⟨W2.heap.size + 1, 1, none⟩ (.slice (some ⟨bg3, 0, none⟩) n n)) = W10 at hc hOD kT2 ⊢
             obtain ⟨b16, hb16⟩ : ∃ b16, W2.heap.size + 1 = b16 := ⟨_, rfl⟩
             rw [hb16] at hc ⊢)
          | (have hc := heap_alloc_new w9 (.cells #[.slice (some ⟨sg3, 0, none⟩) n n, .slice (some ⟨bg3, 0, none⟩) n n] 35)
             have hOD := hOC'.out.nil ((Keeps.refl Nil w9).alloc (.cells #[.slice (some ⟨sg3, 0, none⟩) n n, .slice (some ⟨bg3, 0, none⟩) n n] 35))
             have kT2 := hK9'.out.alloc (.cells #[.slice (some ⟨sg3, 0, none⟩) n n, .slice (some ⟨bg3, 0, none⟩) n n] 35)
             generalize w9.alloc (.cells #[.slice (some ⟨sg3, 0, none⟩) n n, .slice (some ⟨bg3, 0, none⟩) n n] 35) = W10 at hc hOD kT2 ⊢
             obtain ⟨b16, hb16⟩ : ∃ b16, w9.heap.size = b16 := ⟨_, rfl⟩
             rw [hb16] at hc ⊢)
        all_goals
          obtain ⟨f0, f1, f2⟩ := hLC3.out W10 kT2
          have v0 := cell_of_heap hc 0
          have v1 := cell_of_heap hc 1
          simp at v0 v1
          have hOD' := Lib.hid hOD
          have hc' := Lib.hid hc
          have kT2' := Lib.hid kT2
          have f2' := Lib.hid f2
          clear hOD hc kT2 f2
          go_wp2_with fail
          go_region_held3 (fun W => W.cell? ⟨g, 0, none⟩ = some (.slice ysa n ysc) ∧ W.cell? ⟨g, 1, none⟩ = some (.slice yba n ybc) ∧ W.cell? ⟨b16, 0, none⟩ = some (.slice (some ⟨sg3, 0, none⟩) n n) ∧ W.cell? ⟨b16, 1, none⟩ = some (.slice (some ⟨bg3, 0, none⟩) n n)) (first | exact ⟨f0, f1, v0, v1⟩ | exact ⟨hk12'.out.cell f0 (fun h => h), hk12'.out.cell f1 (fun h => h), hk12'.out.cell v0 (fun h => h), hk12'.out.cell v1 (fun h => h)⟩ | (go_keep; done)) ((go_at_call 16; refine (hSame.out _ _ _ _ (hOD'.out.nil (by repeat (first | exact Keeps.refl Nil _ | with_reducible refine Keeps.drew ?_))) (f2'.out.nil (by repeat (first | exact Keeps.refl Nil _ | with_reducible refine Keeps.drew ?_)))).mono ?_; rintro e W12 ⟨rfl, hk12⟩; have hk12' := Lib.hid hk12; clear hk12))
          all_goals
            go_wp2_with fail
            go_ret
            exact ⟨rfl, (kT.out.trans kT2'.out).drew.trans hk12'.out⟩
end Go.Proofs.Ytdgcbjkopmlegaa
