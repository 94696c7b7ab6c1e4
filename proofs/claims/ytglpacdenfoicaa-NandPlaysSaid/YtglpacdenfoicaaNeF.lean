/- nand: New -/
import Derived.Test.YtglpacdenfoicaaNeE
import Derived.Test.YtglpacdenfoicaaNdV
namespace Go.Proofs.Ytglpacdenfoicaa
open Go.RowKit

set_option maxHeartbeats 8000000 in
set_option maxRecDepth 100000 in
theorem new12 {w : World} {S : Sh} {fa : Option Addr} {fc : Nat} {LA : List Fx} (hS1 : S.Ok) (hf : FitsI S.dies S.blocks S.pages S.bytes) (hL : FtsAt w fa LA) (hn : LA.length ≤ 2000) :
    Calls Try.prog 12 #[.agg #[.int .i64 (S.dies : Nat), .int .i64 (S.blocks : Nat), .int .i64 (S.pages : Nat), .int .i64 (S.bytes : Nat)], .slice fa LA.length fc] w (NewOut w S (LA.map (·.f))) := by
  have hfit := Lib.hid (fits25_t hf)
  have hL' := Lib.hid hL
  have hS := Lib.hid hf.hn.2
  have hf1 := hS1
  clear hL hf
  go_enter Try.func12, Try.ntmps12
  go_wp2_with fail
  refine (hfit.out _).mono ?_
  rintro e w1 ⟨rfl, k1⟩
  have k1' := Lib.hid (((Keeps.refl Nil w).alloc (.cells (shCells S) 31)).trans k1)
  have hsh : w1.heap[w.heap.size]? = some (.cells (shCells S) 31 (0, 0)) := k1.heap (heap_alloc_new w _) (fun h => h)
  have s0 := cell_of_heap hsh 0
  have s1 := cell_of_heap hsh 1
  have s2 := cell_of_heap hsh 2
  have s3 := cell_of_heap hsh 3
  simp only [shCells, List.getElem?_toArray, List.getElem?_cons_zero, List.getElem?_cons_succ] at s0 s1 s2 s3
  have hsh' := Lib.hid hsh
  clear k1 hsh
  go_wp2_with fail
  have hB0 := NwB.begin (n0 := w.heap.size) S (heap_alloc_new w1 (.cells (nwCells S none 0 0 none 0 0) 74)) k1'.out.size
  obtain ⟨w2, hw2⟩ : ∃ w2, w1.alloc (.cells (nwCells S none 0 0 none 0 0) 74) = w2 := ⟨_, rfl⟩
  have k2 := Lib.hid (k1'.out.alloc (.cells (nwCells S none 0 0 none 0 0) 74))
  have hsh2 := Lib.hid (((Keeps.refl Nil w1).alloc (.cells (nwCells S none 0 0 none 0 0) 74)).heap hsh'.out (fun h => h))
  rw [hw2] at hB0 k2 hsh2
  have hB0' := Lib.hid hB0
  obtain ⟨ab, hab⟩ : ∃ ab, w1.heap.size = ab := ⟨_, rfl⟩
  rw [hab] at hB0'
  rw [show w1.alloc (.cells #[.int .i64 (S.dies : Nat), .int .i64 (S.blocks : Nat), .int .i64 (S.pages : Nat), .int .i64 (S.bytes : Nat), .slice none 0 0, .slice none 0 0, .bool false, .int .i64 0, .int .i64 0, .int .i64 0, .int .i64 0, .int .i64 0, .int .i64 0, .int .i64 0] 74) = w2 from hw2, hab]
  clear hw2 hab s0 s1 s2 s3 hB0 hsh' k1' w1
  go_loopw [24] (fun i wr => ∃ k : Nat, k ≤ LA.length ∧ i = .int .i64 k ∧ Hid (NwR w wr ab S LA k)) (fun i _ => LA.length - (intOf i).toNat)
  case atStart => exact ⟨0, Nat.zero_le _, rfl, Lib.hid ⟨⟨none, 0, [], hB0'.out, by simp, by simp⟩, k2.out, hsh2.out⟩⟩
  case round =>
    obtain ⟨k, hk, rfl, hrel⟩ := hrel
    have hshr := hrel.out.2.2
    have s0 := cell_of_heap hshr 0
    have s1 := cell_of_heap hshr 1
    have s2 := cell_of_heap hshr 2
    have s3 := cell_of_heap hshr 3
    simp only [shCells, List.getElem?_toArray, List.getElem?_cons_zero, List.getElem?_cons_succ] at s0 s1 s2 s3
    have hshr' := Lib.hid hshr
    clear hshr
    by_cases hlt : k < LA.length
    · obtain ⟨x, hx⟩ : ∃ x, LA[k]? = some x := ⟨LA[k], List.getElem?_eq_getElem hlt⟩
      obtain ⟨g, off, rfl, hc⟩ := hL'.out.cell k x hx
      have kr := hrel.out.2.1
      have c0 := kr.cell (hc 0 _ rfl) (fun h => h)
      rw [Nat.add_zero] at c0
      have c1 := kr.cell (hc 1 _ rfl) (fun h => h)
      have c2 := kr.cell (hc 2 _ rfl) (fun h => h)
      have c3 := kr.cell (hc 3 _ rfl) (fun h => h)
      have c4 := kr.cell (hc 4 _ rfl) (fun h => h)
      have c5 := kr.cell (hc 5 _ rfl) (fun h => h)
      have c6 := kr.cell (hc 6 _ rfl) (fun h => h)
      have c7 := kr.cell (hc 7 _ rfl) (fun h => h)
      have kr' := Lib.hid kr
      clear hc kr
      obtain ⟨wa, hwa⟩ : ∃ wa, wr.alloc (.cells (fCells x) 33) = wa := ⟨_, rfl⟩
      have ka := (Keeps.refl Nil wr).alloc (.cells (fCells x) 33)
      have hfa := heap_alloc_new wr (.cells (fCells x) 33)
      rw [hwa] at ka hfa
      have ka' := Lib.hid ka
      have hshr2 := ka.heap hshr'.out (fun h => h)
      have a0 := cell_of_heap hshr2 0
      have a1 := cell_of_heap hshr2 1
      have a2 := cell_of_heap hshr2 2
      have a3 := cell_of_heap hshr2 3
      simp only [shCells, List.getElem?_toArray, List.getElem?_cons_zero, List.getElem?_cons_succ] at a0 a1 a2 a3
      obtain ⟨fb, hfb⟩ : ∃ fb, wr.heap.size = fb := ⟨_, rfl⟩
      rw [hfb] at hfa
      have f0 := cell_of_heap hfa 0
      have f1 := cell_of_heap hfa 1
      have f2 := cell_of_heap hfa 2
      have f3 := cell_of_heap hfa 3
      have f4 := cell_of_heap hfa 4
      have f5 := cell_of_heap hfa 5
      have f6 := cell_of_heap hfa 6
      have f7 := cell_of_heap hfa 7
      simp only [fCells, List.getElem?_toArray, List.getElem?_cons_zero, List.getElem?_cons_succ] at f0 f1 f2 f3 f4 f5 f6 f7
      have hfa' := Lib.hid hfa
      have hfb' := Lib.hid hfb
      have hwa' := Lib.hid hwa
      have hx' := Lib.hid hx
      have hmem := List.mem_of_getElem? hx
      obtain ⟨b1, b2, b3⟩ := hL'.out.bits x hmem
      have hb1 := Lib.hid b1
      have hb2 := Lib.hid b2
      have hb3 := Lib.hid b3
      have hmay := Lib.hid (may26 S x (by have := hS.out; omega) (by omega) wa (b1.keeps (kr'.out.trans ka) (fun _ _ h => h)))
      obtain ⟨v, hv⟩ : ∃ v, x.f.may S = v := ⟨_, rfl⟩
      rw [hv] at hmay
      have hv' := Lib.hid hv
      clear hx hmem b1 b2 b3 hv ka hfa hshr2 hwa
      go_upto_region 7 with (fail)
      rw [show wr.alloc (.cells #[.int .i64 x.f.kind, .int .i64 x.f.time, .int .i64 x.f.die, .int .i64 x.f.block, .int .i64 x.f.page, .int .i64 x.f.times, .int .i64 x.f.part, .slice x.a x.f.bits.length x.c] 33) = wa from hwa'.out]
      clear c0 c1 c2 c3 c4 c5 c6 c7 s0 s1 s2 s3 hfb
      go_wp2_with fail
      refine (hmay.out).mono ?_
      rintro e wm ⟨rfl, km⟩
      cases v with
      | false =>
        go_wp2_with fail
        go_ret2
        refine ⟨fun h => ?_, fun _ => ⟨rfl, ((kr'.out.trans ka'.out).trans km)⟩⟩
        have h2 := List.all_eq_true.1 h x.f (List.mem_map.2 ⟨x, List.mem_of_getElem? hx'.out, rfl⟩)
        rw [hv'.out] at h2
        cases h2
      | true =>
        have g0 := km.cell f0 (fun h => h)
        have g1 := km.cell f1 (fun h => h)
        have g2 := km.cell f2 (fun h => h)
        have g3 := km.cell f3 (fun h => h)
        have g4 := km.cell f4 (fun h => h)
        have g5 := km.cell f5 (fun h => h)
        have g6 := km.cell f6 (fun h => h)
        have g7 := km.cell f7 (fun h => h)
        have hfm := km.heap hfa'.out (fun h => h)
        have gf := frozen_of_heap hfm
        have hcl := Lib.hid (clone27 (cap := x.c) ((hb1.out.keeps (kr'.out.trans ka'.out) (fun _ _ h => h)).keeps km (fun _ _ h => h)) hb2.out hb3.out)
        have hkm := Lib.hid ((ka'.out).trans km)
        have hfm' := Lib.hid hfm
        clear f0 f1 f2 f3 f4 f5 f6 f7 a0 a1 a2 a3 km hfm
        go_upto_region 10 with (refine (hcl.out).mono ?_; rintro e wc ⟨a', cap', rfl, hrc, kc, hnc⟩; have hfc := kc.heap hfm'.out (fun h => h); have q7 := cell_of_heap hfc 7; simp only [fCells, List.getElem?_toArray, List.getElem?_cons_zero, List.getElem?_cons_succ] at q7; have gfc := frozen_of_heap hfc 7; have hfc' := Lib.hid hfc; have kc' := Lib.hid kc; have hrc' := Lib.hid hrc; have hnc' := Lib.hid hnc; clear kc hrc hnc hfc gf g0 g1 g2 g3 g4 g5 g6 g7)
        obtain ⟨wd, hwd⟩ : ∃ wd, wc.setCell ⟨fb, 7, none⟩ (.slice a' x.f.bits.length cap') = wd := ⟨_, rfl⟩
        have hfd := heap_setCell_same hfc'.out 7 (.slice a' x.f.bits.length cap')
        have kwd := ((Keeps.refl Nil wr).trans (hkm.out.trans kc'.out)).setCell (p := ⟨fb, 7, none⟩) (.inr (by rw [hfb'.out]; exact Nat.le_refl _)) (.slice a' x.f.bits.length cap')
        have hrd : NumRow .i64 (wc.setCell ⟨fb, 7, none⟩ (.slice a' x.f.bits.length cap')) 3 a' cap' x.f.bits := hrc'.out.keeps ((Keeps.refl (· = fb) wc).setCell (p := ⟨fb, 7, none⟩) (.inl rfl) (.slice a' x.f.bits.length cap')) (fun g hg => hrc'.out.ne' hg hfc'.out (by decide))
        rw [hwd] at hfd kwd hrd
        rw [hwd]
        obtain ⟨fa1, fc1, L1, hB1, hm1, hy1⟩ := hrel.out.1
        have hBd := hB1.nil kwd
        have hlen : L1.length = k := by have := congrArg List.length hm1; simp at this; omega
        have e5 := cell_of_heap hBd.blk 5
        simp only [nwCells, List.getElem?_toArray, List.getElem?_cons_zero, List.getElem?_cons_succ] at e5
        rw [hlen] at e5
        have d0 := cell_of_heap hfd 0
        have d1 := cell_of_heap hfd 1
        have d2 := cell_of_heap hfd 2
        have d3 := cell_of_heap hfd 3
        have d4 := cell_of_heap hfd 4
        have d5 := cell_of_heap hfd 5
        have d6 := cell_of_heap hfd 6
        have d7 := cell_of_heap hfd 7
        simp [fCells] at d0 d1 d2 d3 d4 d5 d6 d7
        have fd5 := frozen_of_heap hBd.blk 5
        have hrow : RowAt wd 78 9 fa1 k fc1 (recs encX L1) := by rw [← hlen]; exact hBd.fts
        have hrow' := Lib.hid hrow
        have hsrc := Lib.hid (src_built wd (l := newsX x.f a' cap') (n := 9) (E := 78) rfl)
        have hB2 := Lib.hid hBd
        have hkd := Lib.hid kwd
        have hrd' := Lib.hid hrd
        have hm2 := Lib.hid hm1
        have hy2 := Lib.hid hy1
        have hwd' := Lib.hid hwd
        have hlen' := Lib.hid hlen
        have n1 := Lib.hid (show k + 1 ≤ maxLen by simp only [maxLen]; omega)
        have n2 := Lib.hid (show (k + 1) * 88 ≤ 140737488355328 by omega)
        have e5' : (wd.alloc (.cells #[.int .i64 x.f.kind, .int .i64 x.f.time, .int .i64 x.f.die, .int .i64 x.f.block, .int .i64 x.f.page, .int .i64 x.f.times, .int .i64 x.f.part, .slice a' x.f.bits.length cap', .int .i64 x.f.times] 78)).cell? ⟨ab, 5, none⟩ = some (.slice fa1 k fc1) := ((Keeps.refl Nil wd).alloc _).cell e5 (fun h => h)
        obtain ⟨i78, hi, hz0, hz1, hz2⟩ := info_parts info78
        clear hB1 hm1 hy1 hBd hfd kwd hrd hwd hrow hlen fd5 q7 gfc
        go_region_law ((refine step_app _ (by rfl) _ _ 65 (by rfl) 78 i78 (.agg #[.int .i64 0, .int .i64 0, .int .i64 0, .int .i64 0, .int .i64 0, .int .i64 0, .int .i64 0, .slice none 0 0, .int .i64 0]) 9 88 Try.underlying65 hi hz0 hz1 hz2 rfl (by decide) fa1 k fc1 (recs encX L1) (by rfl) _ 1 1 (newsX x.f a' cap') (by rfl) (hrow'.out.keeps (((Keeps.refl Nil _).alloc _).drew) (fun _ _ h => h)) (hsrc.out.keeps (Keeps.refl Nil _).drew) (fun h => by cases h) (newsX_one _ _ _) (by exact n1.out) (by exact n2.out) ?_; intro a5 cap5 w5 hr5 hk5 hb5; have hX := hB2.out.nil (((Keeps.refl Nil wd).alloc (.cells (newsX x.f a' cap').toArray 78)).drew); have hA5 := hk5.heap hX.blk (fun e => RowAt.ne hX.fts e hX.blk (by decide) rfl); have cc5 := cell_of_heap hA5 5; have ff5 := frozen_of_heap hA5 5; simp only [nwCells, List.getElem?_toArray, List.getElem?_cons_zero, List.getElem?_cons_succ] at cc5; have hr5' := Lib.hid hr5; have hk5' := Lib.hid hk5; have hb5' := Lib.hid hb5; clear hX hA5 hr5 hk5 hb5))
        all_goals
          have hN := Lib.hid (nwR_step hB2.out hm2.out hy2.out hx'.out hv'.out hlen'.out hr5'.out hk5'.out hb5'.out hrd'.out (fun g hg => Nat.le_trans (Nat.le_trans kr'.out.size hkm.out.size) (hnc'.out g hg)) (kr'.out.trans hkd.out) (hkd.out.heap hshr'.out (fun h => h)))
          clear hr5' hk5' hb5' cc5 ff5
          go_wp2_with fail
          go_roundw
          case rel => exact ⟨k + 1, by omega, by go_num, hN⟩
          case measure => simp [intOf]; omega
    · have hkn : k = LA.length := by omega
      rw [hkn] at hrel
      obtain ⟨hd0, hall⟩ := hrel.out.die
      have hd0' := Lib.hid hd0
      have hall' := Lib.hid hall
      have hdn := Lib.hid hf1
      clear hd0 hall hkn hrel hshr'
      go_wp2_with fail
      clear s0 s1 s2 s3 hlt k2 hsh2 hB0'

      go_loopw [52] (fun i wz => ∃ j : Nat, j ≤ S.dies ∧ i = .int .i64 j ∧ Hid (NwD w wz ab S (LA.map (·.f)) j)) (fun i _ => S.dies - (intOf i).toNat)
      case atStart => exact ⟨0, Nat.zero_le _, rfl, hd0'⟩
      case round =>
        obtain ⟨j, hj, rfl, hrel⟩ := hrel
        obtain ⟨wz, rfl⟩ : ∃ wz, wz = wr := ⟨_, rfl⟩
        have hshz := hrel.out.2.2
        have s0 := cell_of_heap hshz 0
        have s1 := cell_of_heap hshz 1
        have s2 := cell_of_heap hshz 2
        have s3 := cell_of_heap hshz 3
        simp only [shCells, List.getElem?_toArray, List.getElem?_cons_zero, List.getElem?_cons_succ] at s0 s1 s2 s3
        have hshz' := Lib.hid hshz
        clear hshz
        by_cases hlt : j < S.dies
        · have hM79 := make79 S.blocks (by have := hdn.out.b2; omega)
          have hM80 := make80 S.pages (by have := hdn.out.p2; omega)
          go_wp2_with fail
          obtain ⟨g, hg⟩ : ∃ g, wz.heap.size = g := ⟨_, rfl⟩
          have hD0 := DieP.begin (g := g) S (w := wz.alloc (.cells (blk0 S.blocks) 82)) (by rw [← hg]; exact heap_alloc_new _ _)
          have ky := (Keeps.refl Nil wz).alloc (.cells (blk0 S.blocks) 82)
          obtain ⟨wy, hwy⟩ : ∃ wy, wz.alloc (.cells (blk0 S.blocks) 82) = wy := ⟨_, rfl⟩
          rw [hwy] at hD0 ky
          rw [hwy, hg]
          have hD0' := Lib.hid hD0
          have ky' := Lib.hid ky
          have hg' := Lib.hid hg
          clear hD0 ky hwy hg s0 s1 s2 s3
          go_loopw [59] (fun i wx => ∃ q : Nat, q ≤ S.blocks ∧ i = .int .i64 q ∧ Hid (Keeps Nil wz wx ∧ ∃ pk, DieP wx g S q pk)) (fun i _ => S.blocks - (intOf i).toNat)
          case atStart => exact ⟨0, Nat.zero_le _, rfl, ky'.out, _, hD0'.out⟩
          case round =>
            obtain ⟨q, hq, rfl, hrel3⟩ := hrel
            obtain ⟨kzr, pk, hDr⟩ := hrel3.out
            have hshr := kzr.heap hshz'.out (fun h => h)
            have hDr' := Lib.hid hDr
            have kzr' := Lib.hid kzr
            by_cases hql : q < S.blocks
            · have s1 := cell_of_heap hshr 1
              have s2 := cell_of_heap hshr 2
              simp only [shCells, List.getElem?_toArray, List.getElem?_cons_zero, List.getElem?_cons_succ] at s1 s2
              obtain ⟨⟨cs, hc1, hc2, _, _⟩, _⟩ := hDr.nil ((Keeps.refl Nil wr).alloc (.cells (Array.replicate S.pages (.slice none 0 0)) 22))
              obtain ⟨v, hv⟩ : ∃ v, cs[q * 3]? = some v := ⟨_, Array.getElem?_eq_getElem (by omega)⟩
              have e1 := (cell_of_heap hc1 (q * 3)).trans hv
              have e2 := frozen_of_heap hc1 (q * 3)
              have hnx := Lib.hid (hDr'.out.add hql)
              have hkn := Lib.hid (((kzr'.out).alloc (.cells (Array.replicate S.pages (.slice none 0 0)) 22)).setCell (p := ⟨g, q * 3, none⟩) (.inr (by rw [hg'.out]; exact Nat.le_refl _)) (.slice (some ⟨wr.heap.size, 0, none⟩) S.pages S.pages))
              have hq64 : q < 64 := by have := hdn.out.b2; omega
              clear hc1 hc2 hv hDr kzr hshr hrel3
              go_wp2_with fail
              go_roundw
              case rel => have := hdn.out.b2; exact ⟨q + 1, by omega, by go_num, Lib.hid ⟨hkn.out, _, hnx.out⟩⟩
              case measure => have := hdn.out.b2; simp [intOf]; omega
            · have hqn : q = S.blocks := by omega
              obtain ⟨⟨ba, bc, db, pb, fa2, fc2, L2, hB, hm⟩, hkk, hsz⟩ := hrel.out
              have hBr := hB.nil kzr
              have c4 := cell_of_heap hBr.blk 4
              simp only [nwCells, List.getElem?_toArray, List.getElem?_cons_zero, List.getElem?_cons_succ] at c4
              obtain ⟨i79, hi, hz0, hz1, hz2⟩ := info_parts info79
              have hown := Lib.hid (hBr.row.keeps ((Keeps.refl Nil wr).alloc (.cells [Value.slice (some ⟨g, 0, none⟩) S.blocks S.blocks].toArray 79)) (fun _ _ h => h))
              have hsrc := Lib.hid (src_built wr (l := [Value.slice (some ⟨g, 0, none⟩) S.blocks S.blocks]) (n := 1) (E := 79) rfl)
              have hBr' := Lib.hid hBr
              have hB2 := Lib.hid hB
              have hm2 := Lib.hid hm
              have hj8 := Lib.hid (show j ≤ 8 by have := hdn.out.d2; omega)
              have hDz := Lib.hid (show DieP wr g S S.blocks pk by rw [← hqn]; exact hDr)
              have hj9 : j < 8 := by have := hdn.out.d2; omega
              clear hB hm hkk hsz hBr hDr kzr hrel3 hqn hshr
              go_wp2_with (at_builtin; refine wpList_app _ rfl _ _ 64 rfl 79 i79 (.slice none 0 0) 1 24 Try.underlying64 hi hz0 hz1 hz2 rfl (by decide) ba j bc (dieVs S db j) rfl _ 1 1 [Value.slice (some ⟨g, 0, none⟩) S.blocks S.blocks] rfl ?_ (by exact hown.out) (by exact hsrc.out) (fun h => by cases h) (by intro u hu; rw [List.mem_singleton] at hu; subst hu; rfl) (by have := hj8.out; simp only [maxLen]; omega) (by have := hj8.out; omega); intro a5 cap5 w5 hr5 hk5 hb5; have hX := hBr'.out.nil ((Keeps.refl Nil wr).alloc (.cells [Value.slice (some ⟨g, 0, none⟩) S.blocks S.blocks].toArray 79)); have hA5 := hk5.heap hX.blk (fun e => RowAt.ne hX.row e hX.blk (by decide) rfl); have cc4 := cell_of_heap hA5 4; have ff4 := frozen_of_heap hA5 4; simp only [nwCells, List.getElem?_toArray, List.getElem?_cons_zero, List.getElem?_cons_succ] at cc4; have hN := Lib.hid (nwD_step hB2.out hm2.out hg'.out hDz.out kzr'.out hr5 hk5 hb5 hrel.out.2.1 hshz'.out); clear hX hA5 hr5 hk5 hb5)
              go_roundw
              case rel => have := hj8.out; exact ⟨j + 1, by omega, by go_num, hN⟩
              case measure => have := hj8.out; simp [intOf]; omega
        · go_wp2_with fail
          go_ret2
          have hjn : j = S.dies := by omega
          obtain ⟨⟨ba, bc, db, pb, fa2, fc2, L2, hB, hm⟩, hkk, _⟩ := hrel.out
          rw [hjn] at hB
          refine ⟨fun _ => ⟨ab, _, rfl, hB.done (by have := hdn.out.d1; omega) hm, hkk, fun k hk => hk.1⟩, fun h => ?_⟩
          rw [hall'.out] at h
          cases h
set_option maxHeartbeats 1000000 in
theorem new12_fits {w : World} {d b p n : Int} {v : Value} (hf : ¬ FitsI d b p n) :
    Calls Try.prog 12 #[.agg #[.int .i64 d, .int .i64 b, .int .i64 p, .int .i64 n], v] w fun e w' => e = .returned (.tuple #[.pointer none, .int .i64 1]) ∧ Keeps Nil w w' := by
  have hfit := Lib.hid (fits25_f hf)
  have k0 := Lib.hid ((Keeps.refl Nil w).alloc (.cells #[.int .i64 d, .int .i64 b, .int .i64 p, .int .i64 n] 31))
  have s0 := cell_of_heap (heap_alloc_new w (.cells #[.int .i64 d, .int .i64 b, .int .i64 p, .int .i64 n] 31))
  have c0 := s0 0
  have c1 := s0 1
  have c2 := s0 2
  have c3 := s0 3
  simp only [List.getElem?_toArray, List.getElem?_cons_zero, List.getElem?_cons_succ] at c0 c1 c2 c3
  clear hf s0
  go_enter Try.func12, Try.ntmps12
  go_wp2_with fail
  refine (hfit.out _).mono ?_
  rintro e w1 ⟨rfl, k1⟩
  have k1' := Lib.hid (k0.out.trans k1)
  clear k1
  go_wp2_with fail
  go_ret2
  exact ⟨rfl, k1'.out⟩
set_option maxHeartbeats 1000000 in
theorem new12_many {w : World} {d b p n : Int} {fa : Option Addr} {m fc : Nat} (hf : FitsI d b p n) (hm : 2000 < m) :
    Calls Try.prog 12 #[.agg #[.int .i64 d, .int .i64 b, .int .i64 p, .int .i64 n], .slice fa m fc] w fun e w' => e = .returned (.tuple #[.pointer none, .int .i64 1]) ∧ Keeps Nil w w' := by
  have hfit := Lib.hid (fits25_t hf)
  have k0 := Lib.hid ((Keeps.refl Nil w).alloc (.cells #[.int .i64 d, .int .i64 b, .int .i64 p, .int .i64 n] 31))
  have s0 := cell_of_heap (heap_alloc_new w (.cells #[.int .i64 d, .int .i64 b, .int .i64 p, .int .i64 n] 31))
  have c0 := s0 0
  have c1 := s0 1
  have c2 := s0 2
  have c3 := s0 3
  simp only [List.getElem?_toArray, List.getElem?_cons_zero, List.getElem?_cons_succ] at c0 c1 c2 c3
  have hmz : (2000 : Int) < (m : Int) := by omega
  clear hf s0 hm
  go_enter Try.func12, Try.ntmps12
  go_wp2_with fail
  refine (hfit.out _).mono ?_
  rintro e w1 ⟨rfl, k1⟩
  have k1' := Lib.hid (k0.out.trans k1)
  clear k1
  go_wp2_with fail
  go_ret2
  exact ⟨rfl, k1'.out⟩
end Go.Proofs.Ytglpacdenfoicaa
