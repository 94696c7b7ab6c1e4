/- DftlSpares: the walk -/
import Derived.Test.YtnickcjkipemmaaDfZ3
import Derived.Test.YtnickcjkipemmaaDfU
import Derived.Deep.CutBlock
import Derived.Deep.DeepCutAuto
namespace Go.Proofs.Ytnickcjkipemmaa
open Go.ChangeShapes Go.WideShapes Go.ChangeAt Go.RowKit Go.Deep

theorem updM_getD (Nm : Int → Option Int) (k n : Int) : (updM (fun k => (Nm k).getD 0) k n) = fun j => ((updM Nm k (some n)) j).getD 0 := by
  funext j
  by_cases hj : j = k
  · rw [hj, updM_same, updM_same]; rfl
  · rw [updM_other _ _ hj, updM_other _ _ hj]
set_option maxHeartbeats 16000000 in
set_option maxRecDepth 100000 in
theorem spares_any (keys0 per most0 : Int) (ax : Option Addr) (n capx : Nat) (l : Nat → DOp) (w : World)
    (k0 : -9223372036854775808 ≤ keys0 ∧ keys0 ≤ 9223372036854775807) (k1 : -9223372036854775808 ≤ per ∧ per ≤ 9223372036854775807) (k2 : -9223372036854775808 ≤ most0 ∧ most0 ≤ 9223372036854775807)
    (hx : DOpsAt w ax n l) (hok : ∀ j, j < n → DOpOk (l j)) (hmx : n ≤ maxLen) :
    Calls Try.prog 9 #[.int .i64 keys0, .int .i64 per, .int .i64 most0, .slice ax n capx] w fun e w' => e = .returned (.bool true) ∧ Keeps Nil w w' := by
  obtain ⟨a0, ha0⟩ : ∃ a, absI keys0 = a := ⟨_, rfl⟩
  obtain ⟨a1, ha1⟩ : ∃ a, absI per = a := ⟨_, rfl⟩
  obtain ⟨a2, ha2⟩ : ∃ a, absI most0 = a := ⟨_, rfl⟩
  have n0 : 0 ≤ a0 := by rw [← ha0]; exact absI_nonneg _
  have n1 : 0 ≤ a1 := by rw [← ha1]; exact absI_nonneg _
  have n2 : 0 ≤ a2 := by rw [← ha2]; exact absI_nonneg _
  have hA0 := Lib.hid (fun W => abs29 keys0 a0 W k0.1 k0.2 ha0)
  have hA1 := Lib.hid (fun W => abs29 per a1 W k1.1 k1.2 ha1)
  have hA2 := Lib.hid (fun W => abs29 most0 a2 W k2.1 k2.2 ha2)
  have b0 : 0 ≤ a0 % 40 := by omega
  have b0' : a0 % 40 ≤ 39 := by omega
  have b1 : 0 ≤ a1 % 9 := by omega
  have b1' : a1 % 9 ≤ 8 := by omega
  have b2 : 0 ≤ a2 % 12 := by omega
  have b2' : a2 % 12 ≤ 11 := by omega
  obtain ⟨q, hq⟩ : ∃ q : Nat, 1 + a1 % 9 = (q : Nat) := ⟨(1 + a1 % 9).toNat, by omega⟩
  obtain ⟨kn, hkn⟩ : ∃ q : Nat, 1 + a0 % 40 = (q : Nat) := ⟨(1 + a0 % 40).toNat, by omega⟩
  obtain ⟨mo, hmo⟩ : ∃ q : Nat, 1 + a2 % 12 = (q : Nat) := ⟨(1 + a2 % 12).toNat, by omega⟩
  have hq1 : 1 ≤ q := by omega
  have hq2 : q ≤ 1024 := by omega
  have hkn1 : 1 ≤ kn := by omega
  have hkn2 : kn ≤ 40 := by omega
  have hmo1 : 1 ≤ mo := by omega
  have hmo2 : mo ≤ 1000 := by omega
  have hq' := Lib.hid hq
  have hkn' := Lib.hid hkn
  have hmo' := Lib.hid hmo
  have hmx2 : n ≤ 9223372036854775807 := by unfold maxLen at hmx; omega
  have hx' := Lib.hid hx
  have hok' := Lib.hid hok
  have hmk := @run_makeMap Try.prog
  obtain ⟨i3, hi3, hz30, hz31, hz32⟩ := info_parts Try.info3n
  clear ha0 ha1 ha2 hq hkn hmo hx hok hmx k0 k1 k2
  go_enter Try.func9, Try.ntmps9
  go_wp2_with fail
  refine (awake27 w).mono ?_
  rintro e w1 ⟨rfl, hk1⟩
  have hk1' := Lib.hid hk1
  clear hk1
  go_wp2_with fail
  refine (hA0.out _).mono ?_
  rintro e w2 ⟨rfl, rfl⟩
  go_wp2_with fail
  refine (hA1.out _).mono ?_
  rintro e w2 ⟨rfl, rfl⟩
  go_wp2_with fail
  refine (hA2.out _).mono ?_
  rintro e w2 ⟨rfl, rfl⟩
  go_upto_region 7 with (fail)
  rw [hq'.out, hkn'.out, hmo'.out]
  clear b0 b0' b1 b1' b2 b2' n0 n1 n2
  have hPN := Lib.hid (show Calls Try.prog 28 #[.int .i64 (q : Nat), .slice none 0 0] w1 (PNewOut w1 q []) from pnew_any q w1 ⟨hq1, hq2⟩ (numsAt_nil w1) (by decide))
  go_wp2_with fail
  refine (hPN.out).mono ?_
  rintro e w2 ⟨pb, OA, rfl, hPA, hk2, hOA⟩
  have hN := new_ok (keys := (kn : Int)) (most := (mo : Int)) hPA (by omega) (by omega) rfl rfl
  rw [show (((pgNew q []).per : Nat) : Int) = (q : Int) from rfl] at hN
  have hat0 : ∀ k : Int, 0 ≤ k → (pgNew q []).at k = 0 := fun k hk => by rw [pgNew_at (by omega) hk]; simp
  have hok0 := ok_new (keys := (kn : Int)) (most := (mo : Int)) (first := []) hq1 (by omega)
  have hlt0 : (pgNew q []).Lt 0 := ⟨Nat.le_refl _, Nat.le_refl _, Nat.le_refl _⟩
  have hper0 : (pgNew q []).per = q := rfl
  have hev0 : (pgNew q []).every = 0 := rfl
  obtain ⟨P0, hP0⟩ : ∃ P, pgNew q [] = P := ⟨_, rfl⟩
  rw [hP0] at hN hPA hok0 hlt0 hat0 hper0 hev0
  have hN' := Lib.hid hN
  have hPA' := Lib.hid hPA
  have hk2' := Lib.hid hk2
  have hOA' := Lib.hid hOA
  have hok0' := Lib.hid (show Df.Ok (kn : Int) (mo : Int) ⟨P0, []⟩ ∧ P0.Lt 0 ∧ P0.per = q ∧ Spare (kn : Int) mo ⟨P0, []⟩ [] (fun _ => none) (fun k => ((fun _ => none : Int → Option Int) k).getD 0) from ⟨hok0, hlt0, hper0, ⟨by simp, fun _ => rfl, fun k hk _ => (hat0 k hk).symm, ⟨hev0⟩⟩⟩)
  clear hN hPA hk2 hOA hP0 hPN hok0 hlt0 hat0 hper0 hev0
  go_wp2_with fail
  refine (hN'.out).mono ?_
  rintro e w3 ⟨db, O1, rfl, hD1, hk3, hO1⟩
  have hDI := Lib.hid (show DfIn w w3 db pb (kn : Int) (mo : Int) ⟨P0, []⟩ O1 from ⟨hD1, (hk1'.out.trans hk2'.out).trans hk3, fun k hk => (hO1 k hk).elim (fun h => Nat.le_trans hk1'.out.size (hOA'.out k h)) (fun h => Nat.le_trans (hk1'.out.trans hk2'.out).size h)⟩)
  clear hD1 hk3 hO1 hN' hPA' hOA' hk1' hk2'
  have hT0 := Lib.hid (show SpD w ((w3.alloc (.map #[] 0)).alloc (.map #[] 0)) db pb w3.heap.size (w3.heap.size + 1) (kn : Int) mo q 0 0 ⟨P0, []⟩ [] (fun _ => none) (fun _ => none) O1 none 0 from by
    have q1 := hDI.out.df
    have q2 := hDI.out.keep.size
    have hs1 : (w3.alloc (.map #[] 0)).heap.size = w3.heap.size + 1 := by simp
    refine ⟨(hDI.out.nil ((Keeps.refl Nil w3).alloc _)).nil ((Keeps.refl Nil _).alloc _), (SetB.made w3).keeps (T := Nil) ((Keeps.refl Nil _).alloc _) (fun h => h), by rw [← hs1]; exact SetB.made _, (fun h => by have := q1.lt h; omega), (fun h => by have := q1.lt h; omega), by omega, q2, by omega, RowAt.nil _ _ _, (fun g hg => by cases hg), hok0'.out.1, hok0'.out.2.1, hok0'.out.2.2.1, List.nodup_nil, Nat.zero_le _, hok0'.out.2.2.2⟩)
  clear hDI hok0'
  go_wp2_with fail
  generalize (w3.alloc (.map #[] 0)).alloc (.map #[] 0) = w5 at hT0
  obtain ⟨sb, hsb⟩ : ∃ sb : Nat, w3.heap.size = sb := ⟨_, rfl⟩
  obtain ⟨nb, hnb⟩ : ∃ nb : Nat, sb + 1 = nb := ⟨_, rfl⟩
  rw [hsb, hnb] at hT0 ⊢
  clear hsb hnb
  go_loopw [15, 16, 17, 18, 19, 20, 21, 22, 23, 24, 25, 26, 27] (fun la i _ _ _ _ _ _ _ _ _ _ _ wr => ∃ (j : Nat) (D : Df) (R : List Int) (S Nm : Int → Option Int) (O : Nat → Prop) (a : Option Addr) (c : Nat), j ≤ 150 ∧ i = .int .i64 j ∧ la = .slice a R.length c ∧ SpD w wr db pb sb nb (kn : Int) mo q (100 * j) j D R S Nm O a c) (fun _ i _ _ _ _ _ _ _ _ _ _ _ _ => 150 - (intOf i).toNat)
  case atStart => exact ⟨0, _, [], _, _, O1, none, 0, by omega, rfl, rfl, hT0.out⟩
  case round =>
    obtain ⟨j, D, R, S, Nm, O, la, lc, hj, rfl, rfl, hT⟩ := hrel
    by_cases hin : j < n ∧ j < 150
    · obtain ⟨hi1, hi2⟩ := hin
      obtain ⟨xb, xo, rfl, hop⟩ := (hx'.out.keeps hT.df.keep) j hi1
      have hoo := hok'.out j hi1
      obtain ⟨x, hx⟩ : ∃ x, l j = x := ⟨_, rfl⟩
      rw [hx] at hop hoo
      have q0 := hop.kind
      have q1 := hop.key
      have q2 := hop.n
      obtain ⟨ak, hak⟩ : ∃ a, absI x.key = a := ⟨_, rfl⟩
      obtain ⟨ad, had⟩ : ∃ a, absI x.kind = a := ⟨_, rfl⟩
      have nk : 0 ≤ ak := by rw [← hak]; exact absI_nonneg _
      have nd : 0 ≤ ad := by rw [← had]; exact absI_nonneg _
      have hAk := Lib.hid (fun W => abs29 x.key ak W hoo.key.1 hoo.key.2 hak)
      have hAd := Lib.hid (fun W => abs29 x.kind ad W hoo.kind.1 hoo.kind.2 had)
      obtain ⟨kk, hkk⟩ : ∃ kk, ak % (kn : Int) = kk := ⟨_, rfl⟩
      have hkk0 : 0 ≤ kk := by rw [← hkk]; exact Int.emod_nonneg _ (by omega)
      have hkk1 : kk < (kn : Int) := by rw [← hkk]; exact Int.emod_lt_of_pos _ (by omega)
      have htm : ak.tmod (kn : Int) = kk := by rw [Int.tmod_eq_emod_of_nonneg nk, hkk]
      have hK0 : ¬ (kn : Int) = 0 := by omega
      obtain ⟨v, hv⟩ : ∃ v : Nat, wr.heap.size = v := ⟨_, rfl⟩
      obtain ⟨W1, hW1⟩ : ∃ W1, wr.alloc (.cells #[.int .i64 x.kind, .int .i64 x.key, .int .u64 x.n] 73) = W1 := ⟨_, rfl⟩
      have s1 : Keeps Nil wr W1 := by rw [← hW1]; exact (Keeps.refl Nil wr).alloc _
      have hb1 : W1.heap[v]? = some (.cells #[.int .i64 x.kind, .int .i64 x.key, .int .u64 x.n] 73 (0, 0)) := by rw [← hW1, ← hv]; exact heap_alloc_new _ _
      have hvO : ¬ O v ∧ v ≠ sb ∧ v ≠ nb := ⟨fun h => by have := hT.df.df.lt h; omega, by have := hT.set.lt; omega, by have := hT.now.lt; omega⟩
      have hT1 := Lib.hid (hT.nil s1)
      obtain ⟨OP, hPg, _, hOpb⟩ := hT1.out.df.pg
      obtain ⟨_, _, _, _, _, p5, p6, p7⟩ := hPg.cells
      have r0 := cell_of_heap hb1 0
      have r1 := cell_of_heap hb1 1
      simp only [List.getElem?_toArray, List.getElem?_cons_zero, List.getElem?_cons_succ] at r0 r1
      have hb1' := Lib.hid hb1
      have hW1' := Lib.hid hW1
      have hkk' := Lib.hid hkk
      have hv' := Lib.hid hv
      have hvO' := Lib.hid hvO
      have hlR : R.length ≤ 150 := by have := hT.len; omega
      obtain ⟨lw, hlw⟩ : ∃ z : Nat, D.P.loads = z := ⟨_, rfl⟩
      obtain ⟨sw, hsw⟩ : ∃ z : Nat, D.P.stores = z := ⟨_, rfl⟩
      have hlw2 : lw ≤ 15000 := by have := hT.lt.loads; omega
      have hsw2 : sw ≤ 15000 := by have := hT.lt.stores; omega
      rw [hlw] at p5
      rw [hsw] at p6
      have hlw' := Lib.hid hlw
      have hsw' := Lib.hid hsw
      rw [← hW1] at r0 r1 p5 p6
      rw [← hv] at r0 r1
      clear hT hx hop hoo hak had hW1 hkk hPg hOpb hb1 s1 hv hvO hlw hsw p7
      go_wp2_with fail
      refine (hAk.out _).mono ?_
      rintro e w4 ⟨rfl, rfl⟩
      go_upto_block 2 with (fail)
      rw [hW1'.out, hv'.out]
      try rw [hkk'.out]
      clear r0 r1 p5 p6 htm hK0 q0 q1 q2
      go_cut [21, 22] (fun hd _ wx => hd = .bool ((R.take mo).contains kk) ∧ wx = W1)
      case first =>
        have hrowc := Lib.hid (fun (t : Nat) (ht : t < R.length) => hT1.out.row.cell (q := R.length - 1 - t) (by rw [List.length_reverse]; omega))
        go_wp2_with fail
        go_loopw [21, 22] (fun hd jj wz => ∃ (t : Nat) (b : Bool) (z : Int), t ≤ R.length ∧ t ≤ mo ∧ jj = .int .i64 z ∧ Hid (z = (R.length : Int) - 1 - t) ∧ hd = .bool b ∧ Hid (b = (R.take t).contains kk) ∧ wz = W1) (fun _ jj _ => (intOf jj + 1).toNat)
        case atStart => exact ⟨0, false, (R.length : Int) - 1, Nat.zero_le _, Nat.zero_le _, by go_num, Lib.hid (by omega), rfl, Lib.hid (by simp), rfl⟩
        case round =>
          obtain ⟨t, b, z, ht, htm, rfl, hz, rfl, hb, rfl⟩ := hrel
          have hcs : (t < R.length ∧ t < mo) ∨ (t = R.length) ∨ (t < R.length ∧ t = mo) := by omega
          have hml : (R.length : Int) ≤ 150 := by omega
          rcases hcs with ⟨hg1, hg2⟩ | hg | ⟨hg1, hg2⟩
          · obtain ⟨ga, rfl, c0⟩ := hrowc.out t hg1
            have hst := held_step (k := kk) hg1
            obtain ⟨y, hy⟩ : ∃ y, gi R.reverse (R.length - 1 - t) = y := ⟨_, rfl⟩
            obtain ⟨p, hp⟩ : ∃ p, R.length - 1 - t = p := ⟨_, rfl⟩
            rw [hy] at c0 hst
            rw [hp] at c0
            have hzp : z = (p : Int) := by have := hz.out; omega
            subst hzp
            have hd2 : decide ((R.length : Int) - (mo : Int) ≤ (p : Int)) = true := decide_eq_true (by omega)
            have hpl : p < R.length := by omega
            have hz1 := Lib.hid (show (p : Int) - 1 = (R.length : Int) - 1 - ((t + 1 : Nat) : Int) from by omega)
            clear hy hp hz
            cases b with
            | true =>
              have hst' := Lib.hid (show true = (R.take (t + 1)).contains kk from by rw [hst, ← hb.out]; rfl)
              clear hst
              go_wp2_with fail
              go_roundw
              case rel => exact ⟨t + 1, true, (p : Int) - 1, by omega, by omega, by go_num, hz1, rfl, hst', trivial⟩
              case measure => simp [intOf]
            | false =>
              have hst' := Lib.hid (show (y == kk) = (R.take (t + 1)).contains kk from by rw [hst, ← hb.out]; rfl)
              clear hst
              go_wp2_with fail
              go_roundw
              case rel => exact ⟨t + 1, (y == kk), (p : Int) - 1, by omega, by omega, by go_num, hz1, rfl, hst', trivial⟩
              case measure => simp [intOf]
          · have hz9 : z = -1 := by have := hz.out; omega
            subst hz9
            have hb9 := Lib.hid (show b = (R.take mo).contains kk from by rw [hb.out, hg, List.take_of_length_le (Nat.le_refl _), List.take_of_length_le (by omega)])
            clear hb hz hg
            go_wp2_with fail
            go_meet
            exact ⟨by rw [hb9.out], rfl⟩
          · obtain ⟨p, hp⟩ : ∃ p, R.length - 1 - t = p := ⟨_, rfl⟩
            have hzp : z = (p : Int) := by have := hz.out; omega
            subst hzp
            have hd2 : decide ((R.length : Int) - (mo : Int) ≤ (p : Int)) = false := decide_eq_false (by omega)
            have hb9 := Lib.hid (show b = (R.take mo).contains kk from by rw [hb.out, hg2])
            clear hb hz hg2 hp
            go_wp2_with fail
            go_meet
            exact ⟨by rw [hb9.out], rfl⟩
      case rest =>
        obtain ⟨rfl, hwc⟩ := hcut
        rw [hwc]
        clear hwc
        have hbx := hb1'.out
        have hvl := lt_of_heap hbx
        have r0 := cell_of_heap hbx 0
        have r2 := cell_of_heap hbx 2
        simp only [List.getElem?_toArray, List.getElem?_cons_zero, List.getElem?_cons_succ] at r0 r2
        have hvO := hvO'.out
        obtain ⟨hh, hhe⟩ : ∃ b, (R.take mo).contains kk = b := ⟨_, rfl⟩
        rw [hhe]
        have hhm := Lib.hid (show hh = true ↔ kk ∈ R.take mo from by rw [← hhe]; simp)
        have hm2 : ad % 2 = 0 ∨ ad % 2 = 1 := by omega
        have t0 := hT1.out
        have hkb : ((kn : Nat) : Int) ≤ 100000 := by omega
        have hvO2 := Lib.hid hvO
        clear hhe
        rcases hm2 with hm2 | hm2
        · as_aux_lemma =>
          obtain ⟨S1, hAsk, hSp⟩ := t0.spare.setStep t0.ok hkb hmo1 ⟨hkk0, hkk1⟩ x.n
          rw [updM_getD] at hSp
          have hS := dset_any t0.df.df t0.ok kk x.n hkk0 hkk1 (t0.lt.mono (by omega))
          have hc0 := (t0.spare.calm.set (most := (mo : Int)) kk x.n).1
          rw [hc0] at hS
          have hsl := set_lt (most := (mo : Int)) (k := kk) (n := x.n) t0.lt
          obtain ⟨o1, o2, _⟩ := t0.ok.set (show (1 : Int) ≤ (mo : Int) by omega) (k := kk) (n := x.n) ⟨hkk0, hkk1⟩
          obtain ⟨D2, hD2⟩ : ∃ D2, (D.set (mo : Int) kk x.n).2 = D2 := ⟨_, rfl⟩
          rw [hD2] at hAsk hSp hS hsl o1 o2
          have hst := Lib.hid (fun e w5 (hE : DfOut W1 db pb (kn : Int) (mo : Int) O (.returned (.int .i64 0)) D2 e w5) => t0.step hE o1 hsl o2 hSp)
          have hS' := Lib.hid hS
          have hAsk' := Lib.hid hAsk
          have hbx' := Lib.hid hbx
          clear hAsk hSp hS hsl o1 o2 hD2 hc0 t0 hbx hvO r2
          go_wp2_with fail
          refine (hAd.out _).mono ?_
          rintro e w4 ⟨rfl, rfl⟩
          have r2 := cell_of_heap hbx'.out 2
          simp only [List.getElem?_toArray, List.getElem?_cons_zero, List.getElem?_cons_succ] at r2
          go_wp2_with fail
          refine (hS'.out).mono ?_
          intro e w5 hE
          obtain ⟨rfl, O5, hM, hkeep⟩ := hst.out _ _ hE
          have hb5 := (hkeep v hvO2.out.1 hvl).trans hbx'.out
          have r0 := cell_of_heap hb5 0
          have r2 := cell_of_heap hb5 2
          simp only [List.getElem?_toArray, List.getElem?_cons_zero, List.getElem?_cons_succ] at r0 r2
          obtain ⟨OP, hPg, hOP⟩ := hM.df.at
          obtain ⟨_, _, _, _, _, p5, p6, _⟩ := hPg.cells
          have hM' := Lib.hid hM
          have hb5' := Lib.hid hb5
          rcases hAsk'.out with ⟨e1, e2, e3, rfl⟩ | ⟨e1, e2, e3, hF, hSn, hS1⟩
          · rw [e1, hsw'.out] at p6
            rw [hlw'.out] at e2 e3
            cases hh with
            | true =>
              rw [e3 (hhm.out.1 rfl)] at p5
              clear e1 e2 e3 hM hkeep hPg hOP hE hb5 hst hS'
              go_wp2_with fail
              refine (hAd.out _).mono ?_
              rintro e w6 ⟨rfl, rfl⟩
              go_wp2_with fail
              refine (hAd.out _).mono ?_
              rintro e w6 ⟨rfl, rfl⟩
              clear p5 p6
              go_wp2_with (first
                | (at_mapUpdate; refine wpList_setPut _ rfl _ _ _ rfl sb _ rfl (by exact hM'.out.set) kk rfl x.n rfl ?_; intro w8 hS8 hk8; have hM8 := Lib.hid (hM'.out.putS hk8 hS8); have r28 := hk8.cell r2 hvO2.out.2.1; clear hS8 hk8)
                | (at_mapUpdate; refine wpList_setPut _ rfl _ _ _ rfl nb _ rfl (by exact hM8.out.now) kk rfl x.n rfl ?_; intro W9 hS9 hk9; have hM9x := Lib.hid (hM8.out.putN hk9 hS9); clear hS9 hk9))
              clear r0 r2 r28
              have hM9 := Lib.hid (hM9x.out)
              have hR9 := Lib.hid (LRow.mk (wr := W9) (W := W9) (a := none) (cap := 0) (l := []) (RowAt.nil _ _ _) (fun g hg => by cases hg) (Keeps.refl _ _))
              go_wp2_with fail
              try rw [hm2]
              clear hm2
              go_loopw [26, 27] (fun lb jj wz => ∃ (t : Nat) (a2 : Option Addr) (c2 : Nat) (l2 : List Int), t ≤ R.length ∧ jj = .int .i64 t ∧ lb = .slice a2 l2.length c2 ∧ l2.length ≤ t ∧ LRow W9 wz a2 c2 l2 ∧ Hid (l2 = (R.reverse.take t).filter (fun y => y != kk))) (fun _ jj _ => R.length - (intOf jj).toNat)
              case atStart => exact ⟨0, none, 0, [], Nat.zero_le _, rfl, rfl, Nat.zero_le _, hR9.out, Lib.hid (by simp)⟩
              case round =>
                obtain ⟨t, a2, c2, l2, ht, rfl, rfl, hl2, hL, he⟩ := hrel
                by_cases htl : t < R.length
                · obtain ⟨ga, rfl, c0⟩ := (hM9.out.row.keeps hL.keep (fun _ _ h => h)).cell (q := t) (by rw [List.length_reverse]; exact htl)
                  have hft := filter_take (l := R.reverse) (k := kk) (j := t) (by rw [List.length_reverse]; exact htl)
                  obtain ⟨y, hy⟩ : ∃ y, gi R.reverse t = y := ⟨_, rfl⟩
                  rw [hy] at c0 hft
                  have hL' := Lib.hid hL
                  clear hL hy
                  by_cases hyk : y = kk
                  · have eyk : (y == kk) = true := by simpa using hyk
                    rw [if_pos eyk, List.append_nil] at hft
                    have hft' := Lib.hid (he.out.trans hft.symm)
                    clear hft he hyk
                    go_wp2_with fail
                    go_roundw
                    case rel => exact ⟨t + 1, a2, c2, l2, by omega, by go_num, rfl, by omega, hL'.out, hft'⟩
                    case measure => simp [intOf]; omega
                  · have eyk : (y == kk) = false := by simpa using hyk
                    rw [eyk] at hft
                    rw [if_neg (by decide), ← he.out] at hft
                    have hft' := Lib.hid hft.symm
                    have hml := Lib.hid (show l2.length + 1 ≤ maxLen from by unfold maxLen; omega)
                    have hmb := Lib.hid (show (l2.length + 1) * 8 ≤ 140737488355328 from by omega)
                    clear hft he hyk
                    go_wp2_with (at_builtin; refine wpList_app _ rfl _ _ 22 rfl 3 i3 _ 1 8 Try.underlying22 hi3 hz30 hz31 hz32 rfl (by decide) a2 l2.length c2 (icells l2) rfl (some ⟨wr.heap.size, 0, none⟩) 1 1 [.int .i64 y] rfl ?_ (by exact hL'.out.row.keeps ((Keeps.refl Nil wr).alloc _) (fun _ _ h => h)) (src_one (cell_new1 wr _ _)) (fun h => by cases h) (by simp [Value.oneCell']) (by exact hml.out) (by exact hmb.out); intro a6 cap6 w6 hr6 hk6 hb6; have hL6 := Lib.hid (hL'.out.add ((Keeps.refl Nil wr).alloc (.cells #[.int .i64 y] 3)) hr6 hk6 hb6); clear hr6 hk6 hb6)
                    go_roundw
                    case rel => exact ⟨t + 1, a6, cap6, l2 ++ [y], by omega, by go_num, by simp, by simp; omega, hL6.out, hft'⟩
                    case measure => simp [intOf]; omega
                · have hte : t = R.length := by omega
                  have hfin := Lib.hid (show l2 ++ [kk] = (kk :: R.erase kk).reverse from by rw [he.out, hte, List.take_of_length_le (by simp)]; exact filter_rev R kk hM9.out.nodup)
                  have hL' := Lib.hid hL
                  have hml := Lib.hid (show l2.length + 1 ≤ maxLen from by unfold maxLen; omega)
                  have hmb := Lib.hid (show (l2.length + 1) * 8 ≤ 140737488355328 from by omega)
                  have hle := Lib.hid (show (kk :: R.erase kk).length ≤ j + 1 from by rw [List.length_cons]; have := List.length_erase_le (a := kk) (l := R); have := hM9.out.len; omega)
                  have hlen9 := Lib.hid (show l2.length + 1 = (kk :: R.erase kk).length from by have := congrArg List.length hfin.out; simpa using this)
                  clear hL he hte
                  go_wp2_with (at_builtin; refine wpList_app _ rfl _ _ 22 rfl 3 i3 _ 1 8 Try.underlying22 hi3 hz30 hz31 hz32 rfl (by decide) a2 l2.length c2 (icells l2) rfl (some ⟨wr.heap.size, 0, none⟩) 1 1 [.int .i64 kk] rfl ?_ (by exact hL'.out.row.keeps ((Keeps.refl Nil wr).alloc _) (fun _ _ h => h)) (src_one (cell_new1 wr _ _)) (fun h => by cases h) (by simp [Value.oneCell']) (by exact hml.out) (by exact hmb.out); intro a6 cap6 w6 hr6 hk6 hb6; have hL6 := Lib.hid (show LRow W9 w6 a6 cap6 (kk :: R.erase kk).reverse from by rw [← hfin.out]; exact hL'.out.add ((Keeps.refl Nil wr).alloc (.cells #[.int .i64 kk] 3)) hr6 hk6 hb6); clear hr6 hk6 hb6)
                  rw [hlen9.out]
                  go_roundw
                  case rel => exact ⟨j + 1, _, _, _, _, _, a6, cap6, by omega, by go_num, rfl, (hM9.out.fin (nodup_step hM9.out.nodup) hle.out hL6.out).mono (by omega)⟩
                  case measure => simp [intOf]; omega
            | false =>
              obtain ⟨lx, hlx⟩ : ∃ z : Nat, D2.P.loads = z := ⟨_, rfl⟩
              rw [hlx] at p5 e2
              have dl : ¬ (lw + 2 < lx) := by omega
              have dl2 : decide (lw + 2 < lx) = false := decide_eq_false dl
              have dl3 : decide ((lw : Int) + 2 < (lx : Int)) = false := decide_eq_false (by omega)
              clear e1 e2 e3 hM hkeep hPg hOP hE hb5 hst hS' hlx
              go_wp2_with fail
              refine (hAd.out _).mono ?_
              rintro e w6 ⟨rfl, rfl⟩
              go_wp2_with fail
              refine (hAd.out _).mono ?_
              rintro e w6 ⟨rfl, rfl⟩
              clear p5 p6
              go_wp2_with (first
                | (at_mapUpdate; refine wpList_setPut _ rfl _ _ _ rfl sb _ rfl (by exact hM'.out.set) kk rfl x.n rfl ?_; intro w8 hS8 hk8; have hM8 := Lib.hid (hM'.out.putS hk8 hS8); have r28 := hk8.cell r2 hvO2.out.2.1; clear hS8 hk8)
                | (at_mapUpdate; refine wpList_setPut _ rfl _ _ _ rfl nb _ rfl (by exact hM8.out.now) kk rfl x.n rfl ?_; intro W9 hS9 hk9; have hM9x := Lib.hid (hM8.out.putN hk9 hS9); clear hS9 hk9))
              clear r0 r2 r28
              have hM9 := Lib.hid (hM9x.out)
              have hR9 := Lib.hid (LRow.mk (wr := W9) (W := W9) (a := none) (cap := 0) (l := []) (RowAt.nil _ _ _) (fun g hg => by cases hg) (Keeps.refl _ _))
              go_wp2_with fail
              try rw [hm2]
              clear hm2
              go_loopw [26, 27] (fun lb jj wz => ∃ (t : Nat) (a2 : Option Addr) (c2 : Nat) (l2 : List Int), t ≤ R.length ∧ jj = .int .i64 t ∧ lb = .slice a2 l2.length c2 ∧ l2.length ≤ t ∧ LRow W9 wz a2 c2 l2 ∧ Hid (l2 = (R.reverse.take t).filter (fun y => y != kk))) (fun _ jj _ => R.length - (intOf jj).toNat)
              case atStart => exact ⟨0, none, 0, [], Nat.zero_le _, rfl, rfl, Nat.zero_le _, hR9.out, Lib.hid (by simp)⟩
              case round =>
                obtain ⟨t, a2, c2, l2, ht, rfl, rfl, hl2, hL, he⟩ := hrel
                by_cases htl : t < R.length
                · obtain ⟨ga, rfl, c0⟩ := (hM9.out.row.keeps hL.keep (fun _ _ h => h)).cell (q := t) (by rw [List.length_reverse]; exact htl)
                  have hft := filter_take (l := R.reverse) (k := kk) (j := t) (by rw [List.length_reverse]; exact htl)
                  obtain ⟨y, hy⟩ : ∃ y, gi R.reverse t = y := ⟨_, rfl⟩
                  rw [hy] at c0 hft
                  have hL' := Lib.hid hL
                  clear hL hy
                  by_cases hyk : y = kk
                  · have eyk : (y == kk) = true := by simpa using hyk
                    rw [if_pos eyk, List.append_nil] at hft
                    have hft' := Lib.hid (he.out.trans hft.symm)
                    clear hft he hyk
                    go_wp2_with fail
                    go_roundw
                    case rel => exact ⟨t + 1, a2, c2, l2, by omega, by go_num, rfl, by omega, hL'.out, hft'⟩
                    case measure => simp [intOf]; omega
                  · have eyk : (y == kk) = false := by simpa using hyk
                    rw [eyk] at hft
                    rw [if_neg (by decide), ← he.out] at hft
                    have hft' := Lib.hid hft.symm
                    have hml := Lib.hid (show l2.length + 1 ≤ maxLen from by unfold maxLen; omega)
                    have hmb := Lib.hid (show (l2.length + 1) * 8 ≤ 140737488355328 from by omega)
                    clear hft he hyk
                    go_wp2_with (at_builtin; refine wpList_app _ rfl _ _ 22 rfl 3 i3 _ 1 8 Try.underlying22 hi3 hz30 hz31 hz32 rfl (by decide) a2 l2.length c2 (icells l2) rfl (some ⟨wr.heap.size, 0, none⟩) 1 1 [.int .i64 y] rfl ?_ (by exact hL'.out.row.keeps ((Keeps.refl Nil wr).alloc _) (fun _ _ h => h)) (src_one (cell_new1 wr _ _)) (fun h => by cases h) (by simp [Value.oneCell']) (by exact hml.out) (by exact hmb.out); intro a6 cap6 w6 hr6 hk6 hb6; have hL6 := Lib.hid (hL'.out.add ((Keeps.refl Nil wr).alloc (.cells #[.int .i64 y] 3)) hr6 hk6 hb6); clear hr6 hk6 hb6)
                    go_roundw
                    case rel => exact ⟨t + 1, a6, cap6, l2 ++ [y], by omega, by go_num, by simp, by simp; omega, hL6.out, hft'⟩
                    case measure => simp [intOf]; omega
                · have hte : t = R.length := by omega
                  have hfin := Lib.hid (show l2 ++ [kk] = (kk :: R.erase kk).reverse from by rw [he.out, hte, List.take_of_length_le (by simp)]; exact filter_rev R kk hM9.out.nodup)
                  have hL' := Lib.hid hL
                  have hml := Lib.hid (show l2.length + 1 ≤ maxLen from by unfold maxLen; omega)
                  have hmb := Lib.hid (show (l2.length + 1) * 8 ≤ 140737488355328 from by omega)
                  have hle := Lib.hid (show (kk :: R.erase kk).length ≤ j + 1 from by rw [List.length_cons]; have := List.length_erase_le (a := kk) (l := R); have := hM9.out.len; omega)
                  have hlen9 := Lib.hid (show l2.length + 1 = (kk :: R.erase kk).length from by have := congrArg List.length hfin.out; simpa using this)
                  clear hL he hte
                  go_wp2_with (at_builtin; refine wpList_app _ rfl _ _ 22 rfl 3 i3 _ 1 8 Try.underlying22 hi3 hz30 hz31 hz32 rfl (by decide) a2 l2.length c2 (icells l2) rfl (some ⟨wr.heap.size, 0, none⟩) 1 1 [.int .i64 kk] rfl ?_ (by exact hL'.out.row.keeps ((Keeps.refl Nil wr).alloc _) (fun _ _ h => h)) (src_one (cell_new1 wr _ _)) (fun h => by cases h) (by simp [Value.oneCell']) (by exact hml.out) (by exact hmb.out); intro a6 cap6 w6 hr6 hk6 hb6; have hL6 := Lib.hid (show LRow W9 w6 a6 cap6 (kk :: R.erase kk).reverse from by rw [← hfin.out]; exact hL'.out.add ((Keeps.refl Nil wr).alloc (.cells #[.int .i64 kk] 3)) hr6 hk6 hb6); clear hr6 hk6 hb6)
                  rw [hlen9.out]
                  go_roundw
                  case rel => exact ⟨j + 1, _, _, _, _, _, a6, cap6, by omega, by go_num, rfl, (hM9.out.fin (nodup_step hM9.out.nodup) hle.out hL6.out).mono (by omega)⟩
                  case measure => simp [intOf]; omega
          · obtain rfl : hh = false := by cases hh; rfl; exact absurd (hhm.out.1 rfl) e3
            rw [e1, hsw'.out] at p6
            rw [hlw'.out] at e2
            obtain ⟨lx, hlx⟩ : ∃ z : Nat, D2.P.loads = z := ⟨_, rfl⟩
            rw [hlx] at p5 e2
            have dl : ¬ (lw + 2 < lx) := by omega
            have dl2 : decide (lw + 2 < lx) = false := decide_eq_false dl
            have dl3 : decide ((lw : Int) + 2 < (lx : Int)) = false := decide_eq_false (by omega)
            have hfit := fits33 hPg hM.set hF kk x.n (.inr hSn) (fun h => hM.disS (hOP _ h))
            rw [← hS1, hM.per] at hfit
            have hfit' := Lib.hid hfit
            clear e1 e2 e3 hM hkeep hPg hOP hE hb5 hst hS' hlx hfit hF hSn hS1 hAsk'
            go_wp2_with fail
            refine (hAd.out _).mono ?_
            rintro e w6 ⟨rfl, rfl⟩
            go_wp2_with fail
            refine (hfit'.out).mono ?_
            rintro e w6 ⟨rfl, hS6, hk6⟩
            have hM6 := Lib.hid (hM'.out.putS hk6 hS6)
            have hb6 := hk6.heap hb5'.out hvO2.out.2.1
            have r0 := cell_of_heap hb6 0
            have r2 := cell_of_heap hb6 2
            simp only [List.getElem?_toArray, List.getElem?_cons_zero, List.getElem?_cons_succ] at r0 r2
            clear hS6 hk6 hb6 hM' hb5' p5 p6
            go_wp2_with fail
            refine (hAd.out _).mono ?_
            rintro e w7 ⟨rfl, rfl⟩
            go_wp2_with (first
              | (at_mapUpdate; refine wpList_setPut _ rfl _ _ _ rfl sb _ rfl (by exact hM6.out.set) kk rfl x.n rfl ?_; intro w8 hS8 hk8; have hM8 := Lib.hid (hM6.out.putS hk8 hS8); have r28 := hk8.cell r2 hvO2.out.2.1; clear hS8 hk8)
              | (at_mapUpdate; refine wpList_setPut _ rfl _ _ _ rfl nb _ rfl (by exact hM8.out.now) kk rfl x.n rfl ?_; intro W9 hS9 hk9; have hM9x := Lib.hid (hM8.out.putN hk9 hS9); clear hS9 hk9))
            clear r0 r2 r28
            have hM9 := Lib.hid (hM9x.out)
            have hR9 := Lib.hid (LRow.mk (wr := W9) (W := W9) (a := none) (cap := 0) (l := []) (RowAt.nil _ _ _) (fun g hg => by cases hg) (Keeps.refl _ _))
            go_wp2_with fail
            try rw [hm2]
            clear hm2
            go_loopw [26, 27] (fun lb jj wz => ∃ (t : Nat) (a2 : Option Addr) (c2 : Nat) (l2 : List Int), t ≤ R.length ∧ jj = .int .i64 t ∧ lb = .slice a2 l2.length c2 ∧ l2.length ≤ t ∧ LRow W9 wz a2 c2 l2 ∧ Hid (l2 = (R.reverse.take t).filter (fun y => y != kk))) (fun _ jj _ => R.length - (intOf jj).toNat)
            case atStart => exact ⟨0, none, 0, [], Nat.zero_le _, rfl, rfl, Nat.zero_le _, hR9.out, Lib.hid (by simp)⟩
            case round =>
              obtain ⟨t, a2, c2, l2, ht, rfl, rfl, hl2, hL, he⟩ := hrel
              by_cases htl : t < R.length
              · obtain ⟨ga, rfl, c0⟩ := (hM9.out.row.keeps hL.keep (fun _ _ h => h)).cell (q := t) (by rw [List.length_reverse]; exact htl)
                have hft := filter_take (l := R.reverse) (k := kk) (j := t) (by rw [List.length_reverse]; exact htl)
                obtain ⟨y, hy⟩ : ∃ y, gi R.reverse t = y := ⟨_, rfl⟩
                rw [hy] at c0 hft
                have hL' := Lib.hid hL
                clear hL hy
                by_cases hyk : y = kk
                · have eyk : (y == kk) = true := by simpa using hyk
                  rw [if_pos eyk, List.append_nil] at hft
                  have hft' := Lib.hid (he.out.trans hft.symm)
                  clear hft he hyk
                  go_wp2_with fail
                  go_roundw
                  case rel => exact ⟨t + 1, a2, c2, l2, by omega, by go_num, rfl, by omega, hL'.out, hft'⟩
                  case measure => simp [intOf]; omega
                · have eyk : (y == kk) = false := by simpa using hyk
                  rw [eyk] at hft
                  rw [if_neg (by decide), ← he.out] at hft
                  have hft' := Lib.hid hft.symm
                  have hml := Lib.hid (show l2.length + 1 ≤ maxLen from by unfold maxLen; omega)
                  have hmb := Lib.hid (show (l2.length + 1) * 8 ≤ 140737488355328 from by omega)
                  clear hft he hyk
                  go_wp2_with (at_builtin; refine wpList_app _ rfl _ _ 22 rfl 3 i3 _ 1 8 Try.underlying22 hi3 hz30 hz31 hz32 rfl (by decide) a2 l2.length c2 (icells l2) rfl (some ⟨wr.heap.size, 0, none⟩) 1 1 [.int .i64 y] rfl ?_ (by exact hL'.out.row.keeps ((Keeps.refl Nil wr).alloc _) (fun _ _ h => h)) (src_one (cell_new1 wr _ _)) (fun h => by cases h) (by simp [Value.oneCell']) (by exact hml.out) (by exact hmb.out); intro a6 cap6 w6 hr6 hk6 hb6; have hL6 := Lib.hid (hL'.out.add ((Keeps.refl Nil wr).alloc (.cells #[.int .i64 y] 3)) hr6 hk6 hb6); clear hr6 hk6 hb6)
                  go_roundw
                  case rel => exact ⟨t + 1, a6, cap6, l2 ++ [y], by omega, by go_num, by simp, by simp; omega, hL6.out, hft'⟩
                  case measure => simp [intOf]; omega
              · have hte : t = R.length := by omega
                have hfin := Lib.hid (show l2 ++ [kk] = (kk :: R.erase kk).reverse from by rw [he.out, hte, List.take_of_length_le (by simp)]; exact filter_rev R kk hM9.out.nodup)
                have hL' := Lib.hid hL
                have hml := Lib.hid (show l2.length + 1 ≤ maxLen from by unfold maxLen; omega)
                have hmb := Lib.hid (show (l2.length + 1) * 8 ≤ 140737488355328 from by omega)
                have hle := Lib.hid (show (kk :: R.erase kk).length ≤ j + 1 from by rw [List.length_cons]; have := List.length_erase_le (a := kk) (l := R); have := hM9.out.len; omega)
                have hlen9 := Lib.hid (show l2.length + 1 = (kk :: R.erase kk).length from by have := congrArg List.length hfin.out; simpa using this)
                clear hL he hte
                go_wp2_with (at_builtin; refine wpList_app _ rfl _ _ 22 rfl 3 i3 _ 1 8 Try.underlying22 hi3 hz30 hz31 hz32 rfl (by decide) a2 l2.length c2 (icells l2) rfl (some ⟨wr.heap.size, 0, none⟩) 1 1 [.int .i64 kk] rfl ?_ (by exact hL'.out.row.keeps ((Keeps.refl Nil wr).alloc _) (fun _ _ h => h)) (src_one (cell_new1 wr _ _)) (fun h => by cases h) (by simp [Value.oneCell']) (by exact hml.out) (by exact hmb.out); intro a6 cap6 w6 hr6 hk6 hb6; have hL6 := Lib.hid (show LRow W9 w6 a6 cap6 (kk :: R.erase kk).reverse from by rw [← hfin.out]; exact hL'.out.add ((Keeps.refl Nil wr).alloc (.cells #[.int .i64 kk] 3)) hr6 hk6 hb6); clear hr6 hk6 hb6)
                rw [hlen9.out]
                go_roundw
                case rel => exact ⟨j + 1, _, _, _, _, _, a6, cap6, by omega, by go_num, rfl, (hM9.out.fin (nodup_step hM9.out.nodup) hle.out hL6.out).mono (by omega)⟩
                case measure => simp [intOf]; omega
        · as_aux_lemma =>
          obtain ⟨S1, hAsk, hSp, hval, hc0⟩ := t0.spare.getStep t0.ok hkb hmo1 ⟨hkk0, hkk1⟩
          have hS := dget_any t0.df.df t0.ok kk hkk0 hkk1 (t0.lt.mono (by omega))
          rw [hval, hc0] at hS
          have hsl := get_lt (most := (mo : Int)) (k := kk) t0.lt
          obtain ⟨o1, o2, _⟩ := t0.ok.get (show (1 : Int) ≤ (mo : Int) by omega) (k := kk) ⟨hkk0, hkk1⟩
          obtain ⟨D2, hD2⟩ : ∃ D2, D.getD (mo : Int) kk = D2 := ⟨_, rfl⟩
          rw [hD2] at hAsk hSp hS hsl o1 o2
          obtain ⟨yv, hyv⟩ : ∃ y, (Nm kk).getD 0 = y := ⟨_, rfl⟩
          have hyv' := Lib.hid hyv
          rw [hyv] at hS
          have hst := Lib.hid (fun e w5 (hE : DfOut W1 db pb (kn : Int) (mo : Int) O (.returned (.tuple #[.int .u64 yv, .int .i64 0])) D2 e w5) => t0.step hE o1 hsl o2 hSp)
          have hS' := Lib.hid hS
          have hAsk' := Lib.hid hAsk
          have hbx' := Lib.hid hbx
          clear hAsk hSp hS hsl o1 o2 hD2 hc0 t0 hbx hvO r2 hval hyv
          go_wp2_with fail
          refine (hAd.out _).mono ?_
          rintro e w4 ⟨rfl, rfl⟩
          go_wp2_with fail
          refine (hS'.out).mono ?_
          intro e w5 hE
          obtain ⟨rfl, O5, hM, hkeep⟩ := hst.out _ _ hE
          have hb5 := (hkeep v hvO2.out.1 hvl).trans hbx'.out
          have r0 := cell_of_heap hb5 0
          have r2 := cell_of_heap hb5 2
          simp only [List.getElem?_toArray, List.getElem?_cons_zero, List.getElem?_cons_succ] at r0 r2
          obtain ⟨OP, hPg, hOP⟩ := hM.df.at
          obtain ⟨_, _, _, _, _, p5, p6, _⟩ := hPg.cells
          have hlk := hM.now.look kk
          rw [hyv'.out] at hlk
          have hM' := Lib.hid hM
          have hb5' := Lib.hid hb5
          rcases hAsk'.out with ⟨e1, e2, e3, rfl⟩ | ⟨e1, e2, e3, hF, hSn, hS1⟩
          · rw [e1, hsw'.out] at p6
            rw [hlw'.out] at e2 e3
            cases hh with
            | true =>
              rw [e3 (hhm.out.1 rfl)] at p5
              clear e1 e2 e3 hM hkeep hPg hOP hE hb5 hst hS'
              obtain ⟨W9, hW9⟩ : ∃ W9, w5 = W9 := ⟨_, rfl⟩
              rw [hW9] at hM' p5 p6 r0 r2 hlk ⊢
              clear hb5' hW9
              go_wp2_with fail
              refine (hAd.out _).mono ?_
              rintro e w6 ⟨rfl, rfl⟩
              go_wp2_with fail
              refine (hAd.out _).mono ?_
              rintro e w6 ⟨rfl, rfl⟩
              clear p5 p6 r0 r2 hlk
              have hM9 := Lib.hid (hM'.out)
              have hR9 := Lib.hid (LRow.mk (wr := W9) (W := W9) (a := none) (cap := 0) (l := []) (RowAt.nil _ _ _) (fun g hg => by cases hg) (Keeps.refl _ _))
              go_wp2_with fail
              try rw [hm2]
              clear hm2
              go_loopw [26, 27] (fun lb jj wz => ∃ (t : Nat) (a2 : Option Addr) (c2 : Nat) (l2 : List Int), t ≤ R.length ∧ jj = .int .i64 t ∧ lb = .slice a2 l2.length c2 ∧ l2.length ≤ t ∧ LRow W9 wz a2 c2 l2 ∧ Hid (l2 = (R.reverse.take t).filter (fun y => y != kk))) (fun _ jj _ => R.length - (intOf jj).toNat)
              case atStart => exact ⟨0, none, 0, [], Nat.zero_le _, rfl, rfl, Nat.zero_le _, hR9.out, Lib.hid (by simp)⟩
              case round =>
                obtain ⟨t, a2, c2, l2, ht, rfl, rfl, hl2, hL, he⟩ := hrel
                by_cases htl : t < R.length
                · obtain ⟨ga, rfl, c0⟩ := (hM9.out.row.keeps hL.keep (fun _ _ h => h)).cell (q := t) (by rw [List.length_reverse]; exact htl)
                  have hft := filter_take (l := R.reverse) (k := kk) (j := t) (by rw [List.length_reverse]; exact htl)
                  obtain ⟨y, hy⟩ : ∃ y, gi R.reverse t = y := ⟨_, rfl⟩
                  rw [hy] at c0 hft
                  have hL' := Lib.hid hL
                  clear hL hy
                  by_cases hyk : y = kk
                  · have eyk : (y == kk) = true := by simpa using hyk
                    rw [if_pos eyk, List.append_nil] at hft
                    have hft' := Lib.hid (he.out.trans hft.symm)
                    clear hft he hyk
                    go_wp2_with fail
                    go_roundw
                    case rel => exact ⟨t + 1, a2, c2, l2, by omega, by go_num, rfl, by omega, hL'.out, hft'⟩
                    case measure => simp [intOf]; omega
                  · have eyk : (y == kk) = false := by simpa using hyk
                    rw [eyk] at hft
                    rw [if_neg (by decide), ← he.out] at hft
                    have hft' := Lib.hid hft.symm
                    have hml := Lib.hid (show l2.length + 1 ≤ maxLen from by unfold maxLen; omega)
                    have hmb := Lib.hid (show (l2.length + 1) * 8 ≤ 140737488355328 from by omega)
                    clear hft he hyk
                    go_wp2_with (at_builtin; refine wpList_app _ rfl _ _ 22 rfl 3 i3 _ 1 8 Try.underlying22 hi3 hz30 hz31 hz32 rfl (by decide) a2 l2.length c2 (icells l2) rfl (some ⟨wr.heap.size, 0, none⟩) 1 1 [.int .i64 y] rfl ?_ (by exact hL'.out.row.keeps ((Keeps.refl Nil wr).alloc _) (fun _ _ h => h)) (src_one (cell_new1 wr _ _)) (fun h => by cases h) (by simp [Value.oneCell']) (by exact hml.out) (by exact hmb.out); intro a6 cap6 w6 hr6 hk6 hb6; have hL6 := Lib.hid (hL'.out.add ((Keeps.refl Nil wr).alloc (.cells #[.int .i64 y] 3)) hr6 hk6 hb6); clear hr6 hk6 hb6)
                    go_roundw
                    case rel => exact ⟨t + 1, a6, cap6, l2 ++ [y], by omega, by go_num, by simp, by simp; omega, hL6.out, hft'⟩
                    case measure => simp [intOf]; omega
                · have hte : t = R.length := by omega
                  have hfin := Lib.hid (show l2 ++ [kk] = (kk :: R.erase kk).reverse from by rw [he.out, hte, List.take_of_length_le (by simp)]; exact filter_rev R kk hM9.out.nodup)
                  have hL' := Lib.hid hL
                  have hml := Lib.hid (show l2.length + 1 ≤ maxLen from by unfold maxLen; omega)
                  have hmb := Lib.hid (show (l2.length + 1) * 8 ≤ 140737488355328 from by omega)
                  have hle := Lib.hid (show (kk :: R.erase kk).length ≤ j + 1 from by rw [List.length_cons]; have := List.length_erase_le (a := kk) (l := R); have := hM9.out.len; omega)
                  have hlen9 := Lib.hid (show l2.length + 1 = (kk :: R.erase kk).length from by have := congrArg List.length hfin.out; simpa using this)
                  clear hL he hte
                  go_wp2_with (at_builtin; refine wpList_app _ rfl _ _ 22 rfl 3 i3 _ 1 8 Try.underlying22 hi3 hz30 hz31 hz32 rfl (by decide) a2 l2.length c2 (icells l2) rfl (some ⟨wr.heap.size, 0, none⟩) 1 1 [.int .i64 kk] rfl ?_ (by exact hL'.out.row.keeps ((Keeps.refl Nil wr).alloc _) (fun _ _ h => h)) (src_one (cell_new1 wr _ _)) (fun h => by cases h) (by simp [Value.oneCell']) (by exact hml.out) (by exact hmb.out); intro a6 cap6 w6 hr6 hk6 hb6; have hL6 := Lib.hid (show LRow W9 w6 a6 cap6 (kk :: R.erase kk).reverse from by rw [← hfin.out]; exact hL'.out.add ((Keeps.refl Nil wr).alloc (.cells #[.int .i64 kk] 3)) hr6 hk6 hb6); clear hr6 hk6 hb6)
                  rw [hlen9.out]
                  go_roundw
                  case rel => exact ⟨j + 1, _, _, _, _, _, a6, cap6, by omega, by go_num, rfl, (hM9.out.fin (nodup_step hM9.out.nodup) hle.out hL6.out).mono (by omega)⟩
                  case measure => simp [intOf]; omega
            | false =>
              obtain ⟨lx, hlx⟩ : ∃ z : Nat, D2.P.loads = z := ⟨_, rfl⟩
              rw [hlx] at p5 e2
              have dl : ¬ (lw + 2 < lx) := by omega
              have dl2 : decide (lw + 2 < lx) = false := decide_eq_false dl
              have dl3 : decide ((lw : Int) + 2 < (lx : Int)) = false := decide_eq_false (by omega)
              clear e1 e2 e3 hM hkeep hPg hOP hE hb5 hst hS' hlx
              obtain ⟨W9, hW9⟩ : ∃ W9, w5 = W9 := ⟨_, rfl⟩
              rw [hW9] at hM' p5 p6 r0 r2 hlk ⊢
              clear hb5' hW9
              go_wp2_with fail
              refine (hAd.out _).mono ?_
              rintro e w6 ⟨rfl, rfl⟩
              go_wp2_with fail
              refine (hAd.out _).mono ?_
              rintro e w6 ⟨rfl, rfl⟩
              clear p5 p6 r0 r2 hlk
              have hM9 := Lib.hid (hM'.out)
              have hR9 := Lib.hid (LRow.mk (wr := W9) (W := W9) (a := none) (cap := 0) (l := []) (RowAt.nil _ _ _) (fun g hg => by cases hg) (Keeps.refl _ _))
              go_wp2_with fail
              try rw [hm2]
              clear hm2
              go_loopw [26, 27] (fun lb jj wz => ∃ (t : Nat) (a2 : Option Addr) (c2 : Nat) (l2 : List Int), t ≤ R.length ∧ jj = .int .i64 t ∧ lb = .slice a2 l2.length c2 ∧ l2.length ≤ t ∧ LRow W9 wz a2 c2 l2 ∧ Hid (l2 = (R.reverse.take t).filter (fun y => y != kk))) (fun _ jj _ => R.length - (intOf jj).toNat)
              case atStart => exact ⟨0, none, 0, [], Nat.zero_le _, rfl, rfl, Nat.zero_le _, hR9.out, Lib.hid (by simp)⟩
              case round =>
                obtain ⟨t, a2, c2, l2, ht, rfl, rfl, hl2, hL, he⟩ := hrel
                by_cases htl : t < R.length
                · obtain ⟨ga, rfl, c0⟩ := (hM9.out.row.keeps hL.keep (fun _ _ h => h)).cell (q := t) (by rw [List.length_reverse]; exact htl)
                  have hft := filter_take (l := R.reverse) (k := kk) (j := t) (by rw [List.length_reverse]; exact htl)
                  obtain ⟨y, hy⟩ : ∃ y, gi R.reverse t = y := ⟨_, rfl⟩
                  rw [hy] at c0 hft
                  have hL' := Lib.hid hL
                  clear hL hy
                  by_cases hyk : y = kk
                  · have eyk : (y == kk) = true := by simpa using hyk
                    rw [if_pos eyk, List.append_nil] at hft
                    have hft' := Lib.hid (he.out.trans hft.symm)
                    clear hft he hyk
                    go_wp2_with fail
                    go_roundw
                    case rel => exact ⟨t + 1, a2, c2, l2, by omega, by go_num, rfl, by omega, hL'.out, hft'⟩
                    case measure => simp [intOf]; omega
                  · have eyk : (y == kk) = false := by simpa using hyk
                    rw [eyk] at hft
                    rw [if_neg (by decide), ← he.out] at hft
                    have hft' := Lib.hid hft.symm
                    have hml := Lib.hid (show l2.length + 1 ≤ maxLen from by unfold maxLen; omega)
                    have hmb := Lib.hid (show (l2.length + 1) * 8 ≤ 140737488355328 from by omega)
                    clear hft he hyk
                    go_wp2_with (at_builtin; refine wpList_app _ rfl _ _ 22 rfl 3 i3 _ 1 8 Try.underlying22 hi3 hz30 hz31 hz32 rfl (by decide) a2 l2.length c2 (icells l2) rfl (some ⟨wr.heap.size, 0, none⟩) 1 1 [.int .i64 y] rfl ?_ (by exact hL'.out.row.keeps ((Keeps.refl Nil wr).alloc _) (fun _ _ h => h)) (src_one (cell_new1 wr _ _)) (fun h => by cases h) (by simp [Value.oneCell']) (by exact hml.out) (by exact hmb.out); intro a6 cap6 w6 hr6 hk6 hb6; have hL6 := Lib.hid (hL'.out.add ((Keeps.refl Nil wr).alloc (.cells #[.int .i64 y] 3)) hr6 hk6 hb6); clear hr6 hk6 hb6)
                    go_roundw
                    case rel => exact ⟨t + 1, a6, cap6, l2 ++ [y], by omega, by go_num, by simp, by simp; omega, hL6.out, hft'⟩
                    case measure => simp [intOf]; omega
                · have hte : t = R.length := by omega
                  have hfin := Lib.hid (show l2 ++ [kk] = (kk :: R.erase kk).reverse from by rw [he.out, hte, List.take_of_length_le (by simp)]; exact filter_rev R kk hM9.out.nodup)
                  have hL' := Lib.hid hL
                  have hml := Lib.hid (show l2.length + 1 ≤ maxLen from by unfold maxLen; omega)
                  have hmb := Lib.hid (show (l2.length + 1) * 8 ≤ 140737488355328 from by omega)
                  have hle := Lib.hid (show (kk :: R.erase kk).length ≤ j + 1 from by rw [List.length_cons]; have := List.length_erase_le (a := kk) (l := R); have := hM9.out.len; omega)
                  have hlen9 := Lib.hid (show l2.length + 1 = (kk :: R.erase kk).length from by have := congrArg List.length hfin.out; simpa using this)
                  clear hL he hte
                  go_wp2_with (at_builtin; refine wpList_app _ rfl _ _ 22 rfl 3 i3 _ 1 8 Try.underlying22 hi3 hz30 hz31 hz32 rfl (by decide) a2 l2.length c2 (icells l2) rfl (some ⟨wr.heap.size, 0, none⟩) 1 1 [.int .i64 kk] rfl ?_ (by exact hL'.out.row.keeps ((Keeps.refl Nil wr).alloc _) (fun _ _ h => h)) (src_one (cell_new1 wr _ _)) (fun h => by cases h) (by simp [Value.oneCell']) (by exact hml.out) (by exact hmb.out); intro a6 cap6 w6 hr6 hk6 hb6; have hL6 := Lib.hid (show LRow W9 w6 a6 cap6 (kk :: R.erase kk).reverse from by rw [← hfin.out]; exact hL'.out.add ((Keeps.refl Nil wr).alloc (.cells #[.int .i64 kk] 3)) hr6 hk6 hb6); clear hr6 hk6 hb6)
                  rw [hlen9.out]
                  go_roundw
                  case rel => exact ⟨j + 1, _, _, _, _, _, a6, cap6, by omega, by go_num, rfl, (hM9.out.fin (nodup_step hM9.out.nodup) hle.out hL6.out).mono (by omega)⟩
                  case measure => simp [intOf]; omega
          · obtain rfl : hh = false := by cases hh; rfl; exact absurd (hhm.out.1 rfl) e3
            rw [e1, hsw'.out] at p6
            rw [hlw'.out] at e2
            obtain ⟨lx, hlx⟩ : ∃ z : Nat, D2.P.loads = z := ⟨_, rfl⟩
            rw [hlx] at p5 e2
            have dl : ¬ (lw + 2 < lx) := by omega
            have dl2 : decide (lw + 2 < lx) = false := decide_eq_false dl
            have dl3 : decide ((lw : Int) + 2 < (lx : Int)) = false := decide_eq_false (by omega)
            have hfit := fits33 hPg hM.set hF (-1) x.n (.inl rfl) (fun h => hM.disS (hOP _ h))
            rw [← hS1, hM.per] at hfit
            have hfit' := Lib.hid hfit
            clear e1 e2 e3 hM hkeep hPg hOP hE hb5 hst hS' hlx hfit hF hSn hS1 hAsk'
            go_wp2_with fail
            refine (hAd.out _).mono ?_
            rintro e w6 ⟨rfl, rfl⟩
            go_wp2_with fail
            refine (hfit'.out).mono ?_
            rintro e W9 ⟨rfl, hS6, hk6⟩
            have hM9x := Lib.hid (hM'.out.putS hk6 hS6)
            have hb6 := hk6.heap hb5'.out hvO2.out.2.1
            have r0 := cell_of_heap hb6 0
            simp only [List.getElem?_toArray, List.getElem?_cons_zero, List.getElem?_cons_succ] at r0
            clear hS6 hk6 hb6 hM' hb5' p5 p6 r2 hlk
            go_wp2_with fail
            refine (hAd.out _).mono ?_
            rintro e w7 ⟨rfl, rfl⟩
            clear r0
            have hM9 := Lib.hid (hM9x.out)
            have hR9 := Lib.hid (LRow.mk (wr := W9) (W := W9) (a := none) (cap := 0) (l := []) (RowAt.nil _ _ _) (fun g hg => by cases hg) (Keeps.refl _ _))
            go_wp2_with fail
            try rw [hm2]
            clear hm2
            go_loopw [26, 27] (fun lb jj wz => ∃ (t : Nat) (a2 : Option Addr) (c2 : Nat) (l2 : List Int), t ≤ R.length ∧ jj = .int .i64 t ∧ lb = .slice a2 l2.length c2 ∧ l2.length ≤ t ∧ LRow W9 wz a2 c2 l2 ∧ Hid (l2 = (R.reverse.take t).filter (fun y => y != kk))) (fun _ jj _ => R.length - (intOf jj).toNat)
            case atStart => exact ⟨0, none, 0, [], Nat.zero_le _, rfl, rfl, Nat.zero_le _, hR9.out, Lib.hid (by simp)⟩
            case round =>
              obtain ⟨t, a2, c2, l2, ht, rfl, rfl, hl2, hL, he⟩ := hrel
              by_cases htl : t < R.length
              · obtain ⟨ga, rfl, c0⟩ := (hM9.out.row.keeps hL.keep (fun _ _ h => h)).cell (q := t) (by rw [List.length_reverse]; exact htl)
                have hft := filter_take (l := R.reverse) (k := kk) (j := t) (by rw [List.length_reverse]; exact htl)
                obtain ⟨y, hy⟩ : ∃ y, gi R.reverse t = y := ⟨_, rfl⟩
                rw [hy] at c0 hft
                have hL' := Lib.hid hL
                clear hL hy
                by_cases hyk : y = kk
                · have eyk : (y == kk) = true := by simpa using hyk
                  rw [if_pos eyk, List.append_nil] at hft
                  have hft' := Lib.hid (he.out.trans hft.symm)
                  clear hft he hyk
                  go_wp2_with fail
                  go_roundw
                  case rel => exact ⟨t + 1, a2, c2, l2, by omega, by go_num, rfl, by omega, hL'.out, hft'⟩
                  case measure => simp [intOf]; omega
                · have eyk : (y == kk) = false := by simpa using hyk
                  rw [eyk] at hft
                  rw [if_neg (by decide), ← he.out] at hft
                  have hft' := Lib.hid hft.symm
                  have hml := Lib.hid (show l2.length + 1 ≤ maxLen from by unfold maxLen; omega)
                  have hmb := Lib.hid (show (l2.length + 1) * 8 ≤ 140737488355328 from by omega)
                  clear hft he hyk
                  go_wp2_with (at_builtin; refine wpList_app _ rfl _ _ 22 rfl 3 i3 _ 1 8 Try.underlying22 hi3 hz30 hz31 hz32 rfl (by decide) a2 l2.length c2 (icells l2) rfl (some ⟨wr.heap.size, 0, none⟩) 1 1 [.int .i64 y] rfl ?_ (by exact hL'.out.row.keeps ((Keeps.refl Nil wr).alloc _) (fun _ _ h => h)) (src_one (cell_new1 wr _ _)) (fun h => by cases h) (by simp [Value.oneCell']) (by exact hml.out) (by exact hmb.out); intro a6 cap6 w6 hr6 hk6 hb6; have hL6 := Lib.hid (hL'.out.add ((Keeps.refl Nil wr).alloc (.cells #[.int .i64 y] 3)) hr6 hk6 hb6); clear hr6 hk6 hb6)
                  go_roundw
                  case rel => exact ⟨t + 1, a6, cap6, l2 ++ [y], by omega, by go_num, by simp, by simp; omega, hL6.out, hft'⟩
                  case measure => simp [intOf]; omega
              · have hte : t = R.length := by omega
                have hfin := Lib.hid (show l2 ++ [kk] = (kk :: R.erase kk).reverse from by rw [he.out, hte, List.take_of_length_le (by simp)]; exact filter_rev R kk hM9.out.nodup)
                have hL' := Lib.hid hL
                have hml := Lib.hid (show l2.length + 1 ≤ maxLen from by unfold maxLen; omega)
                have hmb := Lib.hid (show (l2.length + 1) * 8 ≤ 140737488355328 from by omega)
                have hle := Lib.hid (show (kk :: R.erase kk).length ≤ j + 1 from by rw [List.length_cons]; have := List.length_erase_le (a := kk) (l := R); have := hM9.out.len; omega)
                have hlen9 := Lib.hid (show l2.length + 1 = (kk :: R.erase kk).length from by have := congrArg List.length hfin.out; simpa using this)
                clear hL he hte
                go_wp2_with (at_builtin; refine wpList_app _ rfl _ _ 22 rfl 3 i3 _ 1 8 Try.underlying22 hi3 hz30 hz31 hz32 rfl (by decide) a2 l2.length c2 (icells l2) rfl (some ⟨wr.heap.size, 0, none⟩) 1 1 [.int .i64 kk] rfl ?_ (by exact hL'.out.row.keeps ((Keeps.refl Nil wr).alloc _) (fun _ _ h => h)) (src_one (cell_new1 wr _ _)) (fun h => by cases h) (by simp [Value.oneCell']) (by exact hml.out) (by exact hmb.out); intro a6 cap6 w6 hr6 hk6 hb6; have hL6 := Lib.hid (show LRow W9 w6 a6 cap6 (kk :: R.erase kk).reverse from by rw [← hfin.out]; exact hL'.out.add ((Keeps.refl Nil wr).alloc (.cells #[.int .i64 kk] 3)) hr6 hk6 hb6); clear hr6 hk6 hb6)
                rw [hlen9.out]
                go_roundw
                case rel => exact ⟨j + 1, _, _, _, _, _, a6, cap6, by omega, by go_num, rfl, (hM9.out.fin (nodup_step hM9.out.nodup) hle.out hL6.out).mono (by omega)⟩
                case measure => simp [intOf]; omega
    · have hcase : (j < n ∧ ¬ j < 150) ∨ ¬ j < n := by omega
      have hkE := Lib.hid hT.df.keep
      clear hT hin
      rcases hcase with ⟨hi1, hi2⟩ | hi1
      all_goals
        go_wp2_with fail
        go_ret
        exact ⟨rfl, hkE.out⟩
end Go.Proofs.Ytnickcjkipemmaa
