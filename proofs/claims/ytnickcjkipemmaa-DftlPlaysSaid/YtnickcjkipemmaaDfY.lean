/- DftlPlays: the walk -/
import Derived.Test.YtnickcjkipemmaaDfX
import Derived.Deep.CutBlock
import Derived.Deep.DeepCutAuto
namespace Go.Proofs.Ytnickcjkipemmaa
open Go.ChangeShapes Go.WideShapes Go.ChangeAt Go.RowKit Go.Deep

theorem arg_nums {H : Type} {enc : TypeId × Value → H} {w : World} {a : Option Addr} {len cap : Nat} {d : DataW H} {ps : List MemPlace} (h : DataW.Trod enc Try.prog w 0 (fun _ => true) true 67 (.slice a len cap) d ps) :
    ∃ xs : List Int, xs.length = len ∧ NumsAt w a xs ∧ len ≤ cap ∧ cap ≤ maxLen := by
  obtain ⟨_, h2, h3, _, n, hi⟩ := arg_slice 1 Try.underlying67 (by kernel_rfl) (by decide) h
  have each : ∀ i, i < len → ∃ x : Int, ∃ b off, a = some ⟨b, off, none⟩ ∧ w.cell? ⟨b, off + i, none⟩ = some (.int .u64 x) := by
    intro i hil
    obtain ⟨b, off, ha, cs, y, hcl, hcell, ht⟩ := hi i hil
    obtain ⟨x, h1, _⟩ := DataW.trod_int Try.underlying30 ht
    refine ⟨x, b, off, ha, ?_⟩
    have := hcell 0 (by decide)
    rw [h1, Nat.mul_one, Nat.add_zero] at this
    exact this
  obtain ⟨f, hf⟩ := choose_lt (α := Int) (p := fun i x => ∃ b off, a = some ⟨b, off, none⟩ ∧ w.cell? ⟨b, off + i, none⟩ = some (.int .u64 x)) each
  refine ⟨(List.range len).map f, by simp, fun j hj => ?_, h2, h3⟩
  simp at hj
  obtain ⟨b, off, h4, h5⟩ := hf j hj
  exact ⟨b, off, h4, by rw [h5]; simp [gi, List.getD, hj]⟩
theorem NumsAt.take {w : World} {a : Option Addr} {xs : List Int} (h : NumsAt w a xs) (k : Nat) : NumsAt w a (xs.take k) := fun j hj => by
  rw [List.length_take] at hj
  obtain ⟨b, off, h1, h2⟩ := h j (by omega)
  refine ⟨b, off, h1, ?_⟩
  rw [h2]
  unfold gi
  rw [List.getD_eq_getElem?_getD, List.getD_eq_getElem?_getD, List.getElem?_take, if_pos (by omega)]
theorem updM_self {α : Type} (M : Int → α) (k : Int) : updM M k (M k) = M := by
  funext j
  unfold updM
  split
  · rename_i h; rw [h]
  · rfl
set_option maxHeartbeats 16000000 in
set_option maxRecDepth 100000 in
theorem dplays_any (keys0 per most0 every bad : Int) (fa : Option Addr) (fc : Nat) (first : List Int) (ax : Option Addr) (n capx : Nat) (l : Nat → DOp) (w : World)
    (k0 : -9223372036854775808 ≤ keys0 ∧ keys0 ≤ 9223372036854775807) (k1 : -9223372036854775808 ≤ per ∧ per ≤ 9223372036854775807) (k2 : -9223372036854775808 ≤ most0 ∧ most0 ≤ 9223372036854775807)
    (k3 : -9223372036854775808 ≤ every ∧ every ≤ 9223372036854775807) (k4 : -9223372036854775808 ≤ bad ∧ bad ≤ 9223372036854775807)
    (hf : NumsAt w fa first) (hfc : first.length ≤ fc) (hfm : fc ≤ maxLen) (hx : DOpsAt w ax n l) (hok : ∀ j, j < n → DOpOk (l j)) (hmx : n ≤ maxLen) :
    Calls Try.prog 11 #[.int .i64 keys0, .int .i64 per, .int .i64 most0, .slice fa first.length fc, .int .i64 every, .int .i64 bad, .slice ax n capx] w fun e w' => e = .returned (.bool true) ∧ Keeps Nil w w' := by
  obtain ⟨a0, ha0⟩ : ∃ a, absI keys0 = a := ⟨_, rfl⟩
  obtain ⟨a1, ha1⟩ : ∃ a, absI per = a := ⟨_, rfl⟩
  obtain ⟨a2, ha2⟩ : ∃ a, absI most0 = a := ⟨_, rfl⟩
  obtain ⟨a3, ha3⟩ : ∃ a, absI every = a := ⟨_, rfl⟩
  obtain ⟨a4, ha4⟩ : ∃ a, absI bad = a := ⟨_, rfl⟩
  have n0 : 0 ≤ a0 := by rw [← ha0]; exact absI_nonneg _
  have n1 : 0 ≤ a1 := by rw [← ha1]; exact absI_nonneg _
  have n2 : 0 ≤ a2 := by rw [← ha2]; exact absI_nonneg _
  have n3 : 0 ≤ a3 := by rw [← ha3]; exact absI_nonneg _
  have n4 : 0 ≤ a4 := by rw [← ha4]; exact absI_nonneg _
  have hA0 := Lib.hid (fun W => abs29 keys0 a0 W k0.1 k0.2 ha0)
  have hA1 := Lib.hid (fun W => abs29 per a1 W k1.1 k1.2 ha1)
  have hA2 := Lib.hid (fun W => abs29 most0 a2 W k2.1 k2.2 ha2)
  have hA3 := Lib.hid (fun W => abs29 every a3 W k3.1 k3.2 ha3)
  have hA4 := Lib.hid (fun W => abs29 bad a4 W k4.1 k4.2 ha4)
  have b0 : 0 ≤ a0 % 40 := by omega
  have b0' : a0 % 40 ≤ 39 := by omega
  have b1 : 0 ≤ a1 % 9 := by omega
  have b1' : a1 % 9 ≤ 8 := by omega
  have b2 : 0 ≤ a2 % 12 := by omega
  have b2' : a2 % 12 ≤ 11 := by omega
  obtain ⟨q, hq⟩ : ∃ q : Nat, 1 + a1 % 9 = (q : Nat) := ⟨(1 + a1 % 9).toNat, by omega⟩
  obtain ⟨kn, hkn⟩ : ∃ q : Nat, 1 + a0 % 40 = (q : Nat) := ⟨(1 + a0 % 40).toNat, by omega⟩
  obtain ⟨mo, hmo⟩ : ∃ q : Nat, 1 + a2 % 12 = (q : Nat) := ⟨(1 + a2 % 12).toNat, by omega⟩
  have hq1 : 1 ≤ q := by omega
  have hq2 : q ≤ 1024 := by omega
  have hkn1 : 1 ≤ kn := by omega
  have hkn2 : kn ≤ 40 := by omega
  have hmo1 : 1 ≤ mo := by omega
  have hmo2 : mo ≤ 1000 := by omega
  have hmo3 := Lib.hid (show mo ≤ 12 by omega)
  have hq' := Lib.hid hq
  have hkn' := Lib.hid hkn
  have hmo' := Lib.hid hmo
  have hfm2 : fc ≤ 9223372036854775807 := by unfold maxLen at hfm; omega
  have hmx2 : n ≤ 9223372036854775807 := by unfold maxLen at hmx; omega
  have hf' := Lib.hid hf
  have hx' := Lib.hid hx
  have hok' := Lib.hid hok
  have hmk := @run_makeMap Try.prog
  obtain ⟨i30, hi30, hz30, hz31, hz32⟩ := info_parts Try.info30n
  clear ha0 ha1 ha2 ha3 ha4 hq hkn hmo hx hok hmx hfm hf k0 k1 k2 k3 k4
  go_enter Try.func11, Try.ntmps11
  go_wp2_with fail
  refine (awake27 w).mono ?_
  rintro e w1 ⟨rfl, hk1⟩
  have hk1' := Lib.hid hk1
  clear hk1
  go_wp2_with fail
  refine (hA0.out _).mono ?_
  rintro e w2 ⟨rfl, rfl⟩
  go_wp2_with fail
  refine (hA1.out _).mono ?_
  rintro e w2 ⟨rfl, rfl⟩
  go_wp2_with fail
  refine (hA2.out _).mono ?_
  rintro e w2 ⟨rfl, rfl⟩
  go_upto_if 49 with (fail)
  rw [hq'.out, hkn'.out, hmo'.out]
  clear b0 b0' b1 b1' b2 b2' n0 n1 n2
  go_cut [3] (fun v wx => ∃ (F : List Int) (c : Nat), v = .slice fa F.length c ∧ NumsAt w fa F ∧ F.length ≤ 40 ∧ wx = w1)
  case first =>
    by_cases hlk : kn < first.length
    · have hfl : kn ≤ fc := by omega
      have d1 : decide ((kn : Int) < (first.length : Int)) = true := decide_eq_true (by omega)
      go_wp2_with fail
      go_meet
      exact ⟨first.take kn, fc, by rw [List.length_take, Nat.min_eq_left (by omega)], hf'.out.take kn, by rw [List.length_take]; omega, rfl⟩
    · have d1 : decide ((kn : Int) < (first.length : Int)) = false := decide_eq_false (by omega)
      go_wp2_with fail
      go_meet
      exact ⟨first, fc, rfl, hf'.out, by omega, rfl⟩
  case rest =>
    obtain ⟨F, c, rfl, hF, hFl, rfl⟩ := hcut
    have hPN := Lib.hid (pnew_any q (fa := fa) (fc := c) (first := F) wc ⟨hq1, hq2⟩ (hF.keeps hk1'.out (fun _ _ _ h => h)) (by omega))
    clear hF hFl
    go_wp2_with fail
    refine (hPN.out).mono ?_
    rintro e w2 ⟨pb, OA, rfl, hPA, hk2, hOA⟩
    have hN := new_ok (keys := (kn : Int)) (most := (mo : Int)) hPA (by omega) (by omega) rfl rfl
    rw [show (((pgNew q F).per : Nat) : Int) = (q : Int) from rfl] at hN
    obtain ⟨P0, hP0⟩ : ∃ P, pgNew q F = P := ⟨_, rfl⟩
    have hok0 := ok_new (keys := (kn : Int)) (most := (mo : Int)) (first := F) hq1 (by omega)
    have hlt0 : (pgNew q F).Lt 0 := ⟨Nat.le_refl _, Nat.le_refl _, Nat.le_refl _⟩
    rw [hP0] at hN hPA hok0 hlt0
    have hN' := Lib.hid hN
    have hPA' := Lib.hid hPA
    have hk2' := Lib.hid hk2
    have hOA' := Lib.hid hOA
    have hok0' := Lib.hid hok0
    have hlt0' := Lib.hid hlt0
    clear hN hPA hk2 hOA hP0 hPN hok0 hlt0
    go_wp2_with fail
    refine (hN'.out).mono ?_
    rintro e w3 ⟨db, O1, rfl, hD1, hk3, hO1⟩
    have hDI := Lib.hid (show DfIn w w3 db pb (kn : Int) (mo : Int) ⟨P0, []⟩ O1 from ⟨hD1, (hk1'.out.trans hk2'.out).trans hk3, fun k hk => (hO1 k hk).elim (fun h => Nat.le_trans hk1'.out.size (hOA'.out k h)) (fun h => Nat.le_trans (hk1'.out.trans hk2'.out).size h)⟩)
    clear hD1 hk3 hO1 hN' hPA' hOA' hk1' hk2'
    go_wp2_with fail
    obtain ⟨mb, hmb⟩ : ∃ mb : Nat, w3.heap.size = mb := ⟨_, rfl⟩
    have hmbO := Lib.hid (show ¬ O1 mb ∧ w.heap.size ≤ mb from ⟨fun h => by have := hDI.out.df.lt h; omega, by rw [← hmb]; exact hDI.out.keep.size⟩)
    have hI0 := Lib.hid (show DfIn w (w3.alloc (.map #[] 0)) db pb (kn : Int) (mo : Int) ⟨P0, []⟩ O1 ∧ MayB (w3.alloc (.map #[] 0)) mb 0 (fun j => [P0.at j]) [] (fun _ => 0) (fun _ => 0) (· = mb) from
      ⟨hDI.out.nil ((Keeps.refl Nil w3).alloc _), by rw [← hmb]; exact MapB.made w3, rfl, (fun k hk => by simp [mkeys] at hk), (fun k h0 h1 => by omega), (fun k j h0 h1 => by omega), (fun k hk => by rw [hk, ← hmb]; simp), List.nodup_nil⟩)
    rw [hmb]
    clear hmb hDI
    go_loopw [20] (fun i wr => ∃ (k : Nat) (f : List (Int × Value)) (B C : Int → Nat) (Q : Nat → Prop), k ≤ kn ∧ i = .int .i64 k ∧ DfIn w wr db pb (kn : Int) (mo : Int) ⟨P0, []⟩ O1 ∧ MayB wr mb (k : Int) (fun j => [P0.at j]) f B C Q ∧ (∀ j, O1 j → ¬ Q j) ∧ (∀ j, Q j → w.heap.size ≤ j)) (fun i _ => kn - (intOf i).toNat)
    case atStart => exact ⟨0, [], _, _, _, Nat.zero_le _, rfl, hI0.out.1, hI0.out.2, fun j hj e => hmbO.out.1 (by rw [← e]; exact hj), fun j hj => by rw [hj]; exact hmbO.out.2⟩
    case round =>
      obtain ⟨k, f, B, C, Q, hk, rfl, hD, hM, hdis, hnew⟩ := hrel
      by_cases hlt : k < kn
      · obtain ⟨OP, hPg, _⟩ := hD.at
        obtain ⟨v, hv⟩ : ∃ v, P0.at (k : Int) = v := ⟨_, rfl⟩
        have hA := at_any hPg (k := (k : Int)) (by omega) (by omega)
        rw [show Pg.at (Df.mk P0 []).P (k : Int) = v from hv] at hA
        have hA' := Lib.hid hA
        have hD' := Lib.hid hD
        have hM' := Lib.hid hM
        have hdis' := Lib.hid hdis
        have hnew' := Lib.hid hnew
        have hv' := Lib.hid hv
        clear hPg hA hD hM hdis hnew hv
        go_wp2_with fail
        refine (hA'.out).mono ?_
        rintro e w4 ⟨rfl, hk4⟩
        have hM4 := Lib.hid (hM'.out.keeps hk4 (fun _ _ h => h))
        have hmap5 := Lib.hid (hM4.out.map.keeps ((Keeps.refl Nil w4).alloc (.cells #[.int .u64 v] 30)) (fun h => h))
        have hk4' := Lib.hid hk4
        clear hk4 hA'
        go_wp2_with (at_mapUpdate; refine wpList_updB _ rfl _ _ _ 66 rfl 3 67 Try.underlying66 Try.underlying3 mb f rfl (by exact hmap5.out) (k : Int) rfl (.slice (some ⟨w4.heap.size, 0, none⟩) 1 1) rfl ?_; intro w6 hm6 hk6 _; have hm6' := Lib.hid hm6; have hk6' := Lib.hid hk6; clear hm6 hk6)
        have hput := hM4.out.put (keys' := ((k : Int) + 1)) (k := (k : Int)) (l := [v]) (g := w4.heap.size) (c := 1) (by omega) (by omega) (by omega) (fun j hj => by omega) (((Keeps.refl Nil w4).alloc (.cells #[.int .u64 v] 30)).mono (fun _ h => h.elim)) (rowAt_one (heap_alloc_new w4 _)) (.inr (Nat.le_refl _)) hm6'.out hk6'.out
        rw [show updM (fun j => [P0.at j]) (k : Int) [v] = (fun j => [P0.at j]) from by rw [← hv'.out]; exact updM_self (fun j => [P0.at j]) (k : Int)] at hput
        have hput' := Lib.hid hput
        have hs4 := Lib.hid (show w.heap.size ≤ w4.heap.size from Nat.le_trans hD'.out.keep.size hk4'.out.size)
        have hD6 := Lib.hid (((hD'.out.nil hk4'.out).nil ((Keeps.refl Nil w4).alloc (.cells #[.int .u64 v] 30))).other hk6'.out hmbO.out.2 hmbO.out.1)
        have hlt4 := Lib.hid (fun j (hj : O1 j) => (hD'.out.nil hk4'.out).df.lt hj)
        clear hput
        go_roundw
        case rel => exact ⟨k + 1, _, _, _, (fun j => Q j ∨ j = w4.heap.size), by omega, by go_num, hD6.out, by have := hput'.out; simpa using this, fun j hj hq => hq.elim (hdis'.out j hj) (fun e => by have := hlt4.out j hj; omega), fun j hj => hj.elim (hnew'.out j) (fun e => by rw [e]; exact hs4.out)⟩
        case measure => simp [intOf]; omega
      · have hkk : k = kn := by omega
        subst hkk
        have hPD := Lib.hid (show PlayD w wr db pb (k : Int) (mo : Int) mb 0 0 ⟨P0, []⟩ (fun j => [P0.at j]) O1 Q from ⟨hD, ⟨f, B, C, hM⟩, hdis, hnew, hok0'.out, hlt0'.out, (fun j h0 h1 => by show P0.at j ∈ [P0.at j]; simp), fun _ => Nat.le_refl _⟩)
        clear hD hM hdis hnew hok0' hlt0' hI0
        go_wp2_with fail
        generalize (fun j => [P0.at j] : Int → List Int) = M0 at hPD
        generalize (⟨P0, []⟩ : Df) = D0 at hPD
        go_loopw [21, 22, 23, 24, 25, 26, 27, 28, 29] (fun i _ _ _ _ _ _ _ _ wr => ∃ (j : Nat) (D : Df) (M : Int → List Int) (O Q : Nat → Prop), j ≤ 150 ∧ i = .int .i64 j ∧ PlayD w wr db pb (k : Int) (mo : Int) mb (100 * j) j D M O Q) (fun i _ _ _ _ _ _ _ _ _ => 150 - (intOf i).toNat)
        case atStart => exact ⟨0, D0, M0, O1, Q, by omega, rfl, hPD.out⟩
        case round =>
          obtain ⟨j, D, M, O, Q2, hj, rfl, hT⟩ := hrel
          by_cases hin : j < n ∧ j < 150
          · obtain ⟨hi1, hi2⟩ := hin
            obtain ⟨xb, xo, rfl, hop⟩ := (hx'.out.keeps hT.df.keep) j hi1
            have hoo := hok'.out j hi1
            obtain ⟨x, hx⟩ : ∃ x, l j = x := ⟨_, rfl⟩
            rw [hx] at hop hoo
            have q0 := hop.kind
            have q1 := hop.key
            have q2 := hop.n
            obtain ⟨ak, hak⟩ : ∃ a, absI x.key = a := ⟨_, rfl⟩
            obtain ⟨ad, had⟩ : ∃ a, absI x.kind = a := ⟨_, rfl⟩
            have nk : 0 ≤ ak := by rw [← hak]; exact absI_nonneg _
            have nd : 0 ≤ ad := by rw [← had]; exact absI_nonneg _
            have hAk := Lib.hid (fun W => abs29 x.key ak W hoo.key.1 hoo.key.2 hak)
            have hAd := Lib.hid (fun W => abs29 x.kind ad W hoo.kind.1 hoo.kind.2 had)
            obtain ⟨kk, hkk⟩ : ∃ kk, ak % ((k : Int) + 1) = kk := ⟨_, rfl⟩
            have hkk0 : 0 ≤ kk := by rw [← hkk]; exact Int.emod_nonneg _ (by omega)
            have hkk1 : kk < (k : Int) + 1 := by rw [← hkk]; exact Int.emod_lt_of_pos _ (by omega)
            have htm : ak.tmod ((k : Int) + 1) = kk := by rw [Int.tmod_eq_emod_of_nonneg nk, hkk]
            have hK0 : ¬ (k : Int) + 1 = 0 := by omega
            obtain ⟨W1, hW1⟩ : ∃ W1, wr.alloc (.cells #[.int .i64 x.kind, .int .i64 x.key, .int .u64 x.n] 73) = W1 := ⟨_, rfl⟩
            have s1 : Keeps Nil wr W1 := by rw [← hW1]; exact (Keeps.refl Nil wr).alloc _
            have hb1 : W1.heap[wr.heap.size]? = some (.cells #[.int .i64 x.kind, .int .i64 x.key, .int .u64 x.n] 73 (0, 0)) := by rw [← hW1]; exact heap_alloc_new _ _
            have hT1 := hT.nil s1
            obtain ⟨OP, hPg, _, hOpb⟩ := hT1.df.pg
            obtain ⟨⟨v3, p3⟩, ⟨v4, p4⟩, pf, _⟩ := hPg.cells
            have hT2 := Lib.hid (hT1.setE (a3 % 9) (a4 % 9))
            have hne : ¬ wr.heap.size = pb := fun e => by have := hT.df.df.lt hOpb; omega
            have kE := (((Keeps.refl (· = pb) W1).setCell (p := ⟨pb, 3, none⟩) (.inl rfl) (.int .i64 (a3 % 9))).setCell (p := ⟨pb, 4, none⟩) (.inl rfl) (.int .i64 (a4 % 9)))
            have hb2 := Lib.hid (kE.heap hb1 hne)
            have hb2x := hb2.out
            have r0 := cell_of_heap hb2x 0
            have r1 := cell_of_heap hb2x 1
            have r2 := cell_of_heap hb2x 2
            simp only [List.getElem?_toArray, List.getElem?_cons_zero, List.getElem?_cons_succ] at r0 r1 r2
            have p4w : (W1.setCell ⟨pb, 3, none⟩ (.int .i64 (a3 % 9))).cell? ⟨pb, 4, none⟩ = some v4 := by rw [World.cell?_setCell_other _ _ _ _ (fun e => by cases e)]; exact p4
            have pf2 : ∀ o, (W1.setCell ⟨pb, 3, none⟩ (.int .i64 (a3 % 9))).frozen? ⟨pb, o, none⟩ = false := fun o => by simp [pf]
            have p3w := p3
            obtain ⟨W2, hW2⟩ : ∃ W2, (W1.setCell ⟨pb, 3, none⟩ (.int .i64 (a3 % 9))).setCell ⟨pb, 4, none⟩ (.int .i64 (a4 % 9)) = W2 := ⟨_, rfl⟩
            have r0' := r0
            have r1' := r1
            rw [hW2] at hT2 hb2 r0' r1' r2
            rw [← hW1] at p3w p4w pf pf2 r0 r1
            have hW12 := Lib.hid (show ((wr.alloc (.cells #[.int .i64 x.kind, .int .i64 x.key, .int .u64 x.n] 73)).setCell ⟨pb, 3, none⟩ (.int .i64 (a3 % 9))).setCell ⟨pb, 4, none⟩ (.int .i64 (a4 % 9)) = W2 by rw [hW1]; exact hW2)
            have hkk' := Lib.hid hkk
            have hwlt := Lib.hid (show ∀ j, (O j ∨ Q2 j) → j < wr.heap.size from fun j hj => hj.elim (fun h => hT.df.df.lt h) (fun h => by obtain ⟨f, B, C, hm⟩ := hT.may; exact hm.lt j h))
            have b3 : 0 ≤ a3 % 9 := by omega
            have b4 : 0 ≤ a4 % 9 := by omega
            clear hT hx hop hoo hak had hW1 hW2 hkk hT1 hPg hOpb kE hb1 p3 hb2x p4
            go_wp2_with fail
            refine (hA3.out _).mono ?_
            rintro e w4 ⟨rfl, rfl⟩
            go_wp2_with fail
            refine (hA4.out _).mono ?_
            rintro e w4 ⟨rfl, rfl⟩
            go_wp2_with fail
            refine (hAk.out _).mono ?_
            rintro e w4 ⟨rfl, rfl⟩
            go_wp2_with fail
            rw [hW12.out]
            try rw [hkk'.out]
            refine (hAd.out _).mono ?_
            rintro e w4 ⟨rfl, rfl⟩
            go_upto_block 4 with (fail)
            generalize D.setE (a3 % 9) (a4 % 9) = De at hT2
            obtain ⟨m5, hm5⟩ : ∃ m, ad % 5 = m := ⟨_, rfl⟩
            have hm5c := Lib.hid (show m5 = 0 ∨ m5 = 1 ∨ m5 = 2 ∨ m5 = 3 ∨ m5 = 4 by omega)
            rw [hm5]
            clear hm5 hW12 hAd hAk p3w p4w pf pf2 r0 r1 nd nk htm hkk' q0 q1 q2 r0' r1' hK0
            go_cut [24, 25, 26, 27, 28, 29] (fun _ _ _ _ _ _ wx => ∃ (D' : Df) (M' : Int → List Int) (O' Q' : Nat → Prop), PlayD w wx db pb (k : Int) (mo : Int) mb (100 * j + 50) (j + 1) D' M' O' Q')
            case first =>
              have hm5x := hm5c.out
              have hvO := Lib.hid (show ¬ O wr.heap.size from fun h => by have := hwlt.out _ (.inl h); omega)
              have hlt10 := Lib.hid (show De.P.Lt 10000000 from hT2.out.lt.mono (by omega))
              clear hm5c
              by_cases hke : kk = (k : Int)
              · have ek : (kk == (k : Int)) = true := by simpa using hke
                have hkl : ¬ kk < (k : Int) := by omega
                have hSA := Lib.hid (set_arg hT2.out.df.df kk x.n (.inr (by omega)))
                have hGA := Lib.hid (get_arg hT2.out.df.df kk (.inr (by omega)))
                clear hke
                rcases hm5x with rfl | rfl | rfl | rfl | rfl
                · as_aux_lemma =>
                  go_wp2_with fail
                  refine (hSA.out).mono ?_
                  rintro e w5 ⟨rfl, hk5⟩
                  have hT5 := Lib.hid (hT2.out.nil hk5)
                  clear hk5
                  go_wp2_with fail
                  go_meet
                  exact ⟨_, _, _, _, ⟨hT5.out.df, hT5.out.may, hT5.out.dis, hT5.out.new, hT5.out.ok, hT5.out.lt.mono (by omega), hT5.out.cur, fun i => Nat.le_trans (hT5.out.len i) (by omega)⟩⟩
                · as_aux_lemma =>
                  go_wp2_with fail
                  refine (hSA.out).mono ?_
                  rintro e w5 ⟨rfl, hk5⟩
                  have hT5 := Lib.hid (hT2.out.nil hk5)
                  clear hk5
                  go_wp2_with fail
                  go_meet
                  exact ⟨_, _, _, _, ⟨hT5.out.df, hT5.out.may, hT5.out.dis, hT5.out.new, hT5.out.ok, hT5.out.lt.mono (by omega), hT5.out.cur, fun i => Nat.le_trans (hT5.out.len i) (by omega)⟩⟩
                · as_aux_lemma =>
                  go_wp2_with fail
                  refine (hGA.out).mono ?_
                  rintro e w5 ⟨rfl, hk5⟩
                  have hT5 := Lib.hid (hT2.out.nil hk5)
                  clear hk5
                  go_wp2_with fail
                  go_meet
                  exact ⟨_, _, _, _, ⟨hT5.out.df, hT5.out.may, hT5.out.dis, hT5.out.new, hT5.out.ok, hT5.out.lt.mono (by omega), hT5.out.cur, fun i => Nat.le_trans (hT5.out.len i) (by omega)⟩⟩
                · as_aux_lemma =>
                  go_wp2_with fail
                  refine (hGA.out).mono ?_
                  rintro e w5 ⟨rfl, hk5⟩
                  have hT5 := Lib.hid (hT2.out.nil hk5)
                  clear hk5
                  go_wp2_with fail
                  go_meet
                  exact ⟨_, _, _, _, ⟨hT5.out.df, hT5.out.may, hT5.out.dis, hT5.out.new, hT5.out.ok, hT5.out.lt.mono (by omega), hT5.out.cur, fun i => Nat.le_trans (hT5.out.len i) (by omega)⟩⟩
                · as_aux_lemma =>
                  have hF := dflush_any hT2.out.df.df hT2.out.ok hT2.out.lt (by omega)
                  have hfo := Df.Ok.flush De.L hT2.out.ok
                  have hfl := flush_lt De.L hT2.out.lt
                  have hlen12 : De.L.length ≤ 12 := by have := hT2.out.ok.len; have := hmo3.out; omega
                  have hco := code_flush De.L De
                  have hfd := hT2.out.ok.flushed
                  obtain ⟨R, hR⟩ : ∃ R, Df.flush De.L De = R := ⟨_, rfl⟩
                  rw [hR] at hF hfo hfl hco hfd
                  have hst := Lib.hid (fun (r : Ending) e w5 (hE : DfOut W2 db pb (k : Int) (mo : Int) O r R.2 e w5) => hT2.out.step hE)
                  have hfo' := Lib.hid hfo
                  have hfl' := Lib.hid (hfl.mono (show 100 * j + 2 * De.L.length ≤ 100 * j + 50 by omega))
                  have hfd' := Lib.hid hfd
                  obtain ⟨cf, hcf⟩ : ∃ c, R.1 = c := ⟨_, rfl⟩
                  rw [hcf] at hF hco hfd'
                  have hF' := Lib.hid hF
                  clear hF hfo hfl hR hfd hcf
                  have hend := Lib.hid (fun (w5 : World) (O5 : Nat → Prop) (h1 : DfIn w w5 db pb (k : Int) (mo : Int) R.2 O5) (h2 : MayAt w5 mb (k : Int) M Q2) (h3 : ∀ j, O5 j → ¬ Q2 j) => (show PlayD w w5 db pb (k : Int) (mo : Int) mb (100 * j + 50) (j + 1) R.2 M O5 Q2 from
                    ⟨h1, h2, h3, hT2.out.new, hfo'.out.1, hfl'.out, fun i h0 hi => by rw [hfo'.out.2.2.1 i]; exact hT2.out.cur i h0 hi, fun i => Nat.le_trans (hT2.out.len i) (by omega)⟩))
                  rcases hco with rfl | rfl | rfl
                  · go_wp2_with fail
                    refine (hF'.out).mono ?_
                    intro e w5 hE
                    obtain ⟨rfl, O5, h1, h2, h3⟩ := hst.out _ _ _ hE
                    obtain ⟨f5, B5, C5, hm5⟩ := h2
                    obtain ⟨OP5, hp5, _⟩ := h1.at
                    have hB := brought_any hp5 hm5 (fun i => Nat.le_trans (hT2.out.len i) (by omega)) (by omega) (fun i h0 hi => by rw [hfd'.out (by trivial) i]; exact hT2.out.cur i h0 hi)
                    have hB' := Lib.hid hB
                    have hT5 := Lib.hid (hend.out w5 O5 h1 ⟨f5, B5, C5, hm5⟩ h3)
                    clear hE h1 hm5 h3 hp5 hB hst hF' hend
                    go_wp2_with fail
                    refine (hB'.out).mono ?_
                    rintro e w6 ⟨rfl, hk6⟩
                    have hT6 := Lib.hid (hT5.out.nil hk6)
                    clear hk6
                    go_wp2_with fail
                    go_meet
                    exact ⟨_, _, _, _, hT6.out⟩
                  all_goals
                    go_wp2_with fail
                    refine (hF'.out).mono ?_
                    intro e w5 hE
                    obtain ⟨rfl, O5, h1, h2, h3⟩ := hst.out _ _ _ hE
                    have hT5 := Lib.hid (hend.out w5 O5 h1 h2 h3)
                    clear hE h1 h2 h3 hst hF' hend
                    go_wp2_with fail
                    go_meet
                    exact ⟨_, _, _, _, hT5.out⟩
              · have ek : (kk == (k : Int)) = false := by simpa using hke
                have hkl : kk < (k : Int) := by omega
                clear hke
                rcases hm5x with rfl | rfl | rfl | rfl | rfl
                · as_aux_lemma =>
                  have hSs := hT2.out.ok.set (show (1 : Int) ≤ (mo : Int) by omega) (k := kk) (n := x.n) ⟨hkk0, hkl⟩
                  have hS := dset_any hT2.out.df.df hT2.out.ok kk x.n hkk0 hkl (hlt10.out.mono (by omega))
                  have hco := code_set (most := (mo : Int)) De kk x.n
                  have hsl := set_lt (most := (mo : Int)) (k := kk) (n := x.n) hT2.out.lt
                  obtain ⟨R, hR⟩ : ∃ R, De.set (mo : Int) kk x.n = R := ⟨_, rfl⟩
                  rw [hR] at hSs hS hco hsl
                  have hst := Lib.hid (fun (r : Ending) e w5 (hE : DfOut W2 db pb (k : Int) (mo : Int) O r R.2 e w5) => hT2.out.step hE)
                  have hvar := Lib.hid (fun (r : Ending) e w5 (hE : DfOut W2 db pb (k : Int) (mo : Int) O r R.2 e w5) => (show w5.cell? ⟨wr.heap.size, 2, none⟩ = some (.int .u64 x.n) from by
                    obtain ⟨_, O', _, h3, _⟩ := hE
                    exact h3.cell r2 hvO.out))
                  obtain ⟨cf, hcf⟩ : ∃ c, R.1 = c := ⟨_, rfl⟩
                  rw [hcf] at hS hco hSs
                  have hSs' := Lib.hid hSs
                  have hS' := Lib.hid hS
                  have hsl' := Lib.hid (hsl.mono (show 100 * j + 2 ≤ 100 * j + 50 by omega))
                  clear hSs hS hsl hR hcf
                  rcases hco with rfl | rfl | rfl
                  · go_wp2_with fail
                    refine (hS'.out).mono ?_
                    intro e w5 hE
                    have v5 := hvar.out _ _ _ hE
                    obtain ⟨rfl, O5, h1, h2, h3⟩ := hst.out _ _ _ hE
                    obtain ⟨f5, B5, C5, hm5⟩ := h2
                    have hmap6 := Lib.hid (hm5.map.keeps ((Keeps.refl Nil w5).alloc (.cells #[.int .u64 x.n] 30)) (fun h => h))
                    have h1' := Lib.hid h1
                    have hm5' := Lib.hid hm5
                    have h3' := Lib.hid h3
                    clear hE h1 hm5 h3 hst hvar hS'
                    go_wp2_with (at_mapUpdate; refine wpList_updB _ rfl _ _ _ 66 rfl 3 67 Try.underlying66 Try.underlying3 mb f5 rfl (by exact hmap6.out) kk rfl (.slice (some ⟨w5.heap.size, 0, none⟩) 1 1) rfl ?_; intro w7 hm7 hk7 _; have hm7' := Lib.hid hm7; have hk7' := Lib.hid hk7; clear hm7 hk7)
                    go_meet
                    refine ⟨_, _, _, _, PlayD.write (c := 1) (l := [x.n]) (g := w5.heap.size) h1'.out hm5'.out h3'.out hT2.out.new hSs'.out.1 hsl'.out hkk0 hkl (((Keeps.refl Nil w5).alloc (.cells #[.int .u64 x.n] 30)).mono (fun _ h => h.elim)) (rowAt_one (heap_alloc_new w5 _)) (.inr (Nat.le_refl _)) hm7'.out hk7'.out (fun i h0 hi => ?_) (fun i => ?_)⟩
                    · rw [hSs'.out.2.2.1 (by trivial) i]
                      by_cases hik : i = kk
                      · rw [if_pos hik, hik, updM_same]; simp
                      · rw [if_neg hik, updM_other _ _ hik]; exact hT2.out.cur i h0 hi
                    · by_cases hik : i = kk
                      · rw [hik, updM_same]; simp
                      · rw [updM_other _ _ hik]; exact Nat.le_trans (hT2.out.len i) (by omega)
                  all_goals
                    go_wp2_with fail
                    refine (hS'.out).mono ?_
                    intro e w5 hE
                    have v5 := hvar.out _ _ _ hE
                    obtain ⟨rfl, O5, h1, h2, h3⟩ := hst.out _ _ _ hE
                    obtain ⟨f5, B5, C5, hm5⟩ := h2
                    obtain ⟨hg5, hr5, hq5⟩ := hm5.row kk hkk0 hkl
                    have hg5' := Lib.hid hg5
                    have hr5' := Lib.hid hr5
                    have hmap5 := Lib.hid hm5.map.at
                    have hl5 := Lib.hid (show (M kk).length + 1 ≤ 152 from by have := hT2.out.len kk; omega)
                    have hml5 := Lib.hid (show (M kk).length + 1 ≤ maxLen from by have := hl5.out; unfold maxLen; omega)
                    have hmb5 := Lib.hid (show ((M kk).length + 1) * 8 ≤ 140737488355328 from by have := hl5.out; omega)
                    have h1' := Lib.hid h1
                    have hm5' := Lib.hid hm5
                    have h3' := Lib.hid h3
                    clear hE h1 hm5 h3 hst hvar hS' hg5 hr5 hq5
                    go_wp2_with (first
                      | (at_lookup; refine wpList_look _ rfl _ _ 66 rfl 3 67 Try.underlying66 Try.underlying3 zero67 mb f5 rfl (by exact hmap5.out) kk rfl ?_; rw [hg5'.out]; simp only [Option.getD_some])
                      | (at_builtin; refine wpList_app _ rfl _ _ 67 rfl 30 i30 _ 1 8 Try.underlying67 hi30 hz30 hz31 hz32 rfl (by decide) (some ⟨B5 kk, 0, none⟩) (M kk).length (C5 kk) (ncells (M kk)) rfl (some ⟨w5.heap.size, 0, none⟩) 1 1 [.int .u64 x.n] rfl ?_ (by exact hr5'.out.keeps ((Keeps.refl Nil w5).alloc _) (fun _ _ h => h)) (src_one (cell_new1 w5 _ _)) (fun h => by cases h) (by simp [Value.oneCell']) (by exact hml5.out) (by exact hmb5.out); intro a6 cap6 w6 hr6 hk6 hb6; have hA := row_grown (lt := kk < (k : Int)) hkl ((Keeps.refl Nil w5).alloc (.cells #[.int .u64 x.n] 30)) hr6 hk6 hb6; obtain ⟨g6, rfl, hrow6, hkp6, hg6⟩ := hA; have hrow6' := Lib.hid hrow6; have hkp6' := Lib.hid hkp6; have hg6' := Lib.hid hg6; have hmap6 := Lib.hid (hm5'.out.map.keeps hkp6 (fun e => row_ne_map (hm5'.out.row kk hkk0 hkl).2.1 hm5'.out.map e.2.symm)); clear hr6 hk6 hb6 hrow6 hkp6 hg6)
                      | (at_mapUpdate; refine wpList_updB _ rfl _ _ _ 66 rfl 3 67 Try.underlying66 Try.underlying3 mb f5 rfl (by exact hmap6.out) kk rfl (.slice (some ⟨g6, 0, none⟩) ((M kk).length + 1) cap6) rfl ?_; intro w7 hm7 hk7 _; have hm7' := Lib.hid hm7; have hk7' := Lib.hid hk7; clear hm7 hk7))
                    go_meet
                    refine ⟨_, _, _, _, PlayD.write (c := cap6) (l := M kk ++ [x.n]) (g := g6) h1'.out hm5'.out h3'.out hT2.out.new hSs'.out.1 hsl'.out hkk0 hkl hkp6'.out hrow6'.out hg6'.out (by have := hm7'.out; simpa using this) hk7'.out (fun i h0 hi => ?_) (fun i => ?_)⟩
                    · rw [hSs'.out.2.2.2 (by decide) i]
                      exact mem_updM_app (hT2.out.cur i h0 hi)
                    · by_cases hik : i = kk
                      · rw [hik, updM_same, List.length_append]; have := hT2.out.len kk; simp only [List.length_cons, List.length_nil]; omega
                      · rw [updM_other _ _ hik]; exact Nat.le_trans (hT2.out.len i) (by omega)
                · as_aux_lemma =>
                  have hSs := hT2.out.ok.set (show (1 : Int) ≤ (mo : Int) by omega) (k := kk) (n := x.n) ⟨hkk0, hkl⟩
                  have hS := dset_any hT2.out.df.df hT2.out.ok kk x.n hkk0 hkl (hlt10.out.mono (by omega))
                  have hco := code_set (most := (mo : Int)) De kk x.n
                  have hsl := set_lt (most := (mo : Int)) (k := kk) (n := x.n) hT2.out.lt
                  obtain ⟨R, hR⟩ : ∃ R, De.set (mo : Int) kk x.n = R := ⟨_, rfl⟩
                  rw [hR] at hSs hS hco hsl
                  have hst := Lib.hid (fun (r : Ending) e w5 (hE : DfOut W2 db pb (k : Int) (mo : Int) O r R.2 e w5) => hT2.out.step hE)
                  have hvar := Lib.hid (fun (r : Ending) e w5 (hE : DfOut W2 db pb (k : Int) (mo : Int) O r R.2 e w5) => (show w5.cell? ⟨wr.heap.size, 2, none⟩ = some (.int .u64 x.n) from by
                    obtain ⟨_, O', _, h3, _⟩ := hE
                    exact h3.cell r2 hvO.out))
                  obtain ⟨cf, hcf⟩ : ∃ c, R.1 = c := ⟨_, rfl⟩
                  rw [hcf] at hS hco hSs
                  have hSs' := Lib.hid hSs
                  have hS' := Lib.hid hS
                  have hsl' := Lib.hid (hsl.mono (show 100 * j + 2 ≤ 100 * j + 50 by omega))
                  clear hSs hS hsl hR hcf
                  rcases hco with rfl | rfl | rfl
                  · go_wp2_with fail
                    refine (hS'.out).mono ?_
                    intro e w5 hE
                    have v5 := hvar.out _ _ _ hE
                    obtain ⟨rfl, O5, h1, h2, h3⟩ := hst.out _ _ _ hE
                    obtain ⟨f5, B5, C5, hm5⟩ := h2
                    have hmap6 := Lib.hid (hm5.map.keeps ((Keeps.refl Nil w5).alloc (.cells #[.int .u64 x.n] 30)) (fun h => h))
                    have h1' := Lib.hid h1
                    have hm5' := Lib.hid hm5
                    have h3' := Lib.hid h3
                    clear hE h1 hm5 h3 hst hvar hS'
                    go_wp2_with (at_mapUpdate; refine wpList_updB _ rfl _ _ _ 66 rfl 3 67 Try.underlying66 Try.underlying3 mb f5 rfl (by exact hmap6.out) kk rfl (.slice (some ⟨w5.heap.size, 0, none⟩) 1 1) rfl ?_; intro w7 hm7 hk7 _; have hm7' := Lib.hid hm7; have hk7' := Lib.hid hk7; clear hm7 hk7)
                    go_meet
                    refine ⟨_, _, _, _, PlayD.write (c := 1) (l := [x.n]) (g := w5.heap.size) h1'.out hm5'.out h3'.out hT2.out.new hSs'.out.1 hsl'.out hkk0 hkl (((Keeps.refl Nil w5).alloc (.cells #[.int .u64 x.n] 30)).mono (fun _ h => h.elim)) (rowAt_one (heap_alloc_new w5 _)) (.inr (Nat.le_refl _)) hm7'.out hk7'.out (fun i h0 hi => ?_) (fun i => ?_)⟩
                    · rw [hSs'.out.2.2.1 (by trivial) i]
                      by_cases hik : i = kk
                      · rw [if_pos hik, hik, updM_same]; simp
                      · rw [if_neg hik, updM_other _ _ hik]; exact hT2.out.cur i h0 hi
                    · by_cases hik : i = kk
                      · rw [hik, updM_same]; simp
                      · rw [updM_other _ _ hik]; exact Nat.le_trans (hT2.out.len i) (by omega)
                  all_goals
                    go_wp2_with fail
                    refine (hS'.out).mono ?_
                    intro e w5 hE
                    have v5 := hvar.out _ _ _ hE
                    obtain ⟨rfl, O5, h1, h2, h3⟩ := hst.out _ _ _ hE
                    obtain ⟨f5, B5, C5, hm5⟩ := h2
                    obtain ⟨hg5, hr5, hq5⟩ := hm5.row kk hkk0 hkl
                    have hg5' := Lib.hid hg5
                    have hr5' := Lib.hid hr5
                    have hmap5 := Lib.hid hm5.map.at
                    have hl5 := Lib.hid (show (M kk).length + 1 ≤ 152 from by have := hT2.out.len kk; omega)
                    have hml5 := Lib.hid (show (M kk).length + 1 ≤ maxLen from by have := hl5.out; unfold maxLen; omega)
                    have hmb5 := Lib.hid (show ((M kk).length + 1) * 8 ≤ 140737488355328 from by have := hl5.out; omega)
                    have h1' := Lib.hid h1
                    have hm5' := Lib.hid hm5
                    have h3' := Lib.hid h3
                    clear hE h1 hm5 h3 hst hvar hS' hg5 hr5 hq5
                    go_wp2_with (first
                      | (at_lookup; refine wpList_look _ rfl _ _ 66 rfl 3 67 Try.underlying66 Try.underlying3 zero67 mb f5 rfl (by exact hmap5.out) kk rfl ?_; rw [hg5'.out]; simp only [Option.getD_some])
                      | (at_builtin; refine wpList_app _ rfl _ _ 67 rfl 30 i30 _ 1 8 Try.underlying67 hi30 hz30 hz31 hz32 rfl (by decide) (some ⟨B5 kk, 0, none⟩) (M kk).length (C5 kk) (ncells (M kk)) rfl (some ⟨w5.heap.size, 0, none⟩) 1 1 [.int .u64 x.n] rfl ?_ (by exact hr5'.out.keeps ((Keeps.refl Nil w5).alloc _) (fun _ _ h => h)) (src_one (cell_new1 w5 _ _)) (fun h => by cases h) (by simp [Value.oneCell']) (by exact hml5.out) (by exact hmb5.out); intro a6 cap6 w6 hr6 hk6 hb6; have hA := row_grown (lt := kk < (k : Int)) hkl ((Keeps.refl Nil w5).alloc (.cells #[.int .u64 x.n] 30)) hr6 hk6 hb6; obtain ⟨g6, rfl, hrow6, hkp6, hg6⟩ := hA; have hrow6' := Lib.hid hrow6; have hkp6' := Lib.hid hkp6; have hg6' := Lib.hid hg6; have hmap6 := Lib.hid (hm5'.out.map.keeps hkp6 (fun e => row_ne_map (hm5'.out.row kk hkk0 hkl).2.1 hm5'.out.map e.2.symm)); clear hr6 hk6 hb6 hrow6 hkp6 hg6)
                      | (at_mapUpdate; refine wpList_updB _ rfl _ _ _ 66 rfl 3 67 Try.underlying66 Try.underlying3 mb f5 rfl (by exact hmap6.out) kk rfl (.slice (some ⟨g6, 0, none⟩) ((M kk).length + 1) cap6) rfl ?_; intro w7 hm7 hk7 _; have hm7' := Lib.hid hm7; have hk7' := Lib.hid hk7; clear hm7 hk7))
                    go_meet
                    refine ⟨_, _, _, _, PlayD.write (c := cap6) (l := M kk ++ [x.n]) (g := g6) h1'.out hm5'.out h3'.out hT2.out.new hSs'.out.1 hsl'.out hkk0 hkl hkp6'.out hrow6'.out hg6'.out (by have := hm7'.out; simpa using this) hk7'.out (fun i h0 hi => ?_) (fun i => ?_)⟩
                    · rw [hSs'.out.2.2.2 (by decide) i]
                      exact mem_updM_app (hT2.out.cur i h0 hi)
                    · by_cases hik : i = kk
                      · rw [hik, updM_same, List.length_append]; have := hT2.out.len kk; simp only [List.length_cons, List.length_nil]; omega
                      · rw [updM_other _ _ hik]; exact Nat.le_trans (hT2.out.len i) (by omega)
                · as_aux_lemma =>
                  have hSs := hT2.out.ok.get (show (1 : Int) ≤ (mo : Int) by omega) (k := kk) ⟨hkk0, hkl⟩
                  have hS := dget_any hT2.out.df.df hT2.out.ok kk hkk0 hkl hlt10.out
                  have hco := code_get (most := (mo : Int)) De kk
                  have hsl := get_lt (most := (mo : Int)) (k := kk) hT2.out.lt
                  obtain ⟨R, hR⟩ : ∃ R, De.getD (mo : Int) kk = R := ⟨_, rfl⟩
                  obtain ⟨cf, hcf⟩ : ∃ c, De.getC (mo : Int) kk = c := ⟨_, rfl⟩
                  obtain ⟨vf, hvf⟩ : ∃ c, De.getV (mo : Int) kk = c := ⟨_, rfl⟩
                  rw [hR, hcf, hvf] at hSs hS
                  rw [hR] at hsl
                  rw [hcf] at hco
                  have hst := Lib.hid (fun (r : Ending) e w5 (hE : DfOut W2 db pb (k : Int) (mo : Int) O r R e w5) => hT2.out.step hE)
                  have hSs' := Lib.hid hSs
                  have hS' := Lib.hid hS
                  have hsl' := Lib.hid (hsl.mono (show 100 * j + 3 ≤ 100 * j + 50 by omega))
                  have hlM := Lib.hid (show (M kk).length ≤ 152 from by have := hT2.out.len kk; omega)
                  clear hSs hS hsl hR hcf hvf
                  rcases hco with rfl | rfl | rfl
                  · have hvc := hSs'.out.2.2.2.1 rfl
                    go_wp2_with fail
                    refine (hS'.out).mono ?_
                    intro e w5 hE
                    obtain ⟨rfl, O5, h1, h2, h3⟩ := hst.out _ _ _ hE
                    obtain ⟨f5, B5, C5, hm5⟩ := h2
                    obtain ⟨hg5, hr5, hq5⟩ := hm5.row kk hkk0 hkl
                    have hlk := run_look (P := Try.prog) Try.underlying66 Try.underlying3 (zero67 w5) hm5.map.at kk
                    rw [hg5] at hlk
                    simp only [Option.getD_some] at hlk
                    obtain ⟨row, hrow⟩ : ∃ r, M kk = r := ⟨_, rfl⟩
                    have hcell := Lib.hid (fun j (hj : j < row.length) => (show w5.cell? ⟨B5 kk, j, none⟩ = some (.int .u64 (row.getD j 0)) from by rw [← hrow]; exact hm5.cell hkk0 hkl (by rw [hrow]; exact hj)))
                    have hcont := Lib.hid (show row.contains vf = true by rw [← hrow, hvc]; simpa using hT2.out.cur kk hkk0 hkl)
                    rw [hrow] at hlk
                    have hrl := hlM.out
                    rw [hrow] at hrl
                    have hmap6 := Lib.hid (hm5.map.keeps ((Keeps.refl Nil w5).alloc (.cells #[.int .u64 vf] 30)) (fun h => h))
                    have h1' := Lib.hid h1
                    have hm5' := Lib.hid hm5
                    have h3' := Lib.hid h3
                    have hvc' := Lib.hid hvc
                    clear hE h1 hm5 h3 hst hS' hg5 hr5 hq5 hrow hvc
                    go_wp2_with fail
                    go_loopw [27, 28] (fun th jj wz => ∃ q : Nat, q ≤ row.length ∧ jj = .int .i64 q ∧ th = .bool ((row.take q).contains vf) ∧ wz = w5) (fun _ jj _ => row.length - (intOf jj).toNat)
                    case atStart => exact ⟨0, Nat.zero_le _, rfl, by simp, rfl⟩
                    case round =>
                      obtain ⟨q, hq, rfl, rfl, rfl⟩ := hrel
                      by_cases hlt : q < row.length
                      · have had := any_drop (x := vf) hlt
                        have c0 := hcell.out q hlt
                        obtain ⟨rv, hrv⟩ : ∃ v, row.getD q 0 = v := ⟨_, rfl⟩
                        rw [hrv] at had c0
                        cases hb : (row.take q).contains vf with
                        | true =>
                          rw [hb, Bool.true_or] at had
                          have had' := Lib.hid had
                          clear had hrv hb
                          go_wp2_with fail
                          go_roundw
                          case rel => exact ⟨q + 1, by omega, by go_num, by rw [had'.out], trivial⟩
                          case measure => simp [intOf]; omega
                        | false =>
                          rw [hb, Bool.false_or] at had
                          have had' := Lib.hid had
                          clear had hrv hb
                          go_wp2_with fail
                          go_roundw
                          case rel => exact ⟨q + 1, by omega, by go_num, by rw [had'.out], trivial⟩
                          case measure => simp [intOf]; omega
                      · have e : row.take q = row := List.take_of_length_le (by omega)
                        rw [e, hcont.out]
                        clear e
                        go_wp2_with (at_mapUpdate; refine wpList_updB _ rfl _ _ _ 66 rfl 3 67 Try.underlying66 Try.underlying3 mb f5 rfl (by exact hmap6.out) kk rfl (.slice (some ⟨wr.heap.size, 0, none⟩) 1 1) rfl ?_; intro w7 hm7 hk7 _; have hm7' := Lib.hid hm7; have hk7' := Lib.hid hk7; clear hm7 hk7)
                        go_meet
                        refine ⟨_, _, _, _, PlayD.write (c := 1) (l := [vf]) (g := wr.heap.size) h1'.out hm5'.out h3'.out hT2.out.new hSs'.out.1 hsl'.out hkk0 hkl (((Keeps.refl Nil wr).alloc (.cells #[.int .u64 vf] 30)).mono (fun _ h => h.elim)) (rowAt_one (heap_alloc_new wr _)) (.inr (Nat.le_refl _)) hm7'.out hk7'.out (fun i h0 hi => ?_) (fun i => ?_)⟩
                        · rw [hSs'.out.2.2.1 i]
                          by_cases hik : i = kk
                          · rw [hik, updM_same, hvc'.out]; simp
                          · rw [updM_other _ _ hik]; exact hT2.out.cur i h0 hi
                        · by_cases hik : i = kk
                          · rw [hik, updM_same]; simp
                          · rw [updM_other _ _ hik]; exact Nat.le_trans (hT2.out.len i) (by omega)
                  all_goals
                    have hv0 := hSs'.out.2.2.2.2 (by decide)
                    subst hv0
                    go_wp2_with fail
                    refine (hS'.out).mono ?_
                    intro e w5 hE
                    obtain ⟨rfl, O5, h1, h2, h3⟩ := hst.out _ _ _ hE
                    have hT5 := Lib.hid (show PlayD w w5 db pb (k : Int) (mo : Int) mb (100 * j + 50) (j + 1) R M O5 Q2 from
                      ⟨h1, h2, h3, hT2.out.new, hSs'.out.1, hsl'.out, fun i h0 hi => by rw [hSs'.out.2.2.1 i]; exact hT2.out.cur i h0 hi, fun i => Nat.le_trans (hT2.out.len i) (by omega)⟩)
                    clear hE h1 h2 h3 hst hS'
                    go_wp2_with fail
                    go_meet
                    exact ⟨_, _, _, _, hT5.out⟩
                · as_aux_lemma =>
                  have hSs := hT2.out.ok.get (show (1 : Int) ≤ (mo : Int) by omega) (k := kk) ⟨hkk0, hkl⟩
                  have hS := dget_any hT2.out.df.df hT2.out.ok kk hkk0 hkl hlt10.out
                  have hco := code_get (most := (mo : Int)) De kk
                  have hsl := get_lt (most := (mo : Int)) (k := kk) hT2.out.lt
                  obtain ⟨R, hR⟩ : ∃ R, De.getD (mo : Int) kk = R := ⟨_, rfl⟩
                  obtain ⟨cf, hcf⟩ : ∃ c, De.getC (mo : Int) kk = c := ⟨_, rfl⟩
                  obtain ⟨vf, hvf⟩ : ∃ c, De.getV (mo : Int) kk = c := ⟨_, rfl⟩
                  rw [hR, hcf, hvf] at hSs hS
                  rw [hR] at hsl
                  rw [hcf] at hco
                  have hst := Lib.hid (fun (r : Ending) e w5 (hE : DfOut W2 db pb (k : Int) (mo : Int) O r R e w5) => hT2.out.step hE)
                  have hSs' := Lib.hid hSs
                  have hS' := Lib.hid hS
                  have hsl' := Lib.hid (hsl.mono (show 100 * j + 3 ≤ 100 * j + 50 by omega))
                  have hlM := Lib.hid (show (M kk).length ≤ 152 from by have := hT2.out.len kk; omega)
                  clear hSs hS hsl hR hcf hvf
                  rcases hco with rfl | rfl | rfl
                  · have hvc := hSs'.out.2.2.2.1 rfl
                    go_wp2_with fail
                    refine (hS'.out).mono ?_
                    intro e w5 hE
                    obtain ⟨rfl, O5, h1, h2, h3⟩ := hst.out _ _ _ hE
                    obtain ⟨f5, B5, C5, hm5⟩ := h2
                    obtain ⟨hg5, hr5, hq5⟩ := hm5.row kk hkk0 hkl
                    have hlk := run_look (P := Try.prog) Try.underlying66 Try.underlying3 (zero67 w5) hm5.map.at kk
                    rw [hg5] at hlk
                    simp only [Option.getD_some] at hlk
                    obtain ⟨row, hrow⟩ : ∃ r, M kk = r := ⟨_, rfl⟩
                    have hcell := Lib.hid (fun j (hj : j < row.length) => (show w5.cell? ⟨B5 kk, j, none⟩ = some (.int .u64 (row.getD j 0)) from by rw [← hrow]; exact hm5.cell hkk0 hkl (by rw [hrow]; exact hj)))
                    have hcont := Lib.hid (show row.contains vf = true by rw [← hrow, hvc]; simpa using hT2.out.cur kk hkk0 hkl)
                    rw [hrow] at hlk
                    have hrl := hlM.out
                    rw [hrow] at hrl
                    have hmap6 := Lib.hid (hm5.map.keeps ((Keeps.refl Nil w5).alloc (.cells #[.int .u64 vf] 30)) (fun h => h))
                    have h1' := Lib.hid h1
                    have hm5' := Lib.hid hm5
                    have h3' := Lib.hid h3
                    have hvc' := Lib.hid hvc
                    clear hE h1 hm5 h3 hst hS' hg5 hr5 hq5 hrow hvc
                    go_wp2_with fail
                    go_loopw [27, 28] (fun th jj wz => ∃ q : Nat, q ≤ row.length ∧ jj = .int .i64 q ∧ th = .bool ((row.take q).contains vf) ∧ wz = w5) (fun _ jj _ => row.length - (intOf jj).toNat)
                    case atStart => exact ⟨0, Nat.zero_le _, rfl, by simp, rfl⟩
                    case round =>
                      obtain ⟨q, hq, rfl, rfl, rfl⟩ := hrel
                      by_cases hlt : q < row.length
                      · have had := any_drop (x := vf) hlt
                        have c0 := hcell.out q hlt
                        obtain ⟨rv, hrv⟩ : ∃ v, row.getD q 0 = v := ⟨_, rfl⟩
                        rw [hrv] at had c0
                        cases hb : (row.take q).contains vf with
                        | true =>
                          rw [hb, Bool.true_or] at had
                          have had' := Lib.hid had
                          clear had hrv hb
                          go_wp2_with fail
                          go_roundw
                          case rel => exact ⟨q + 1, by omega, by go_num, by rw [had'.out], trivial⟩
                          case measure => simp [intOf]; omega
                        | false =>
                          rw [hb, Bool.false_or] at had
                          have had' := Lib.hid had
                          clear had hrv hb
                          go_wp2_with fail
                          go_roundw
                          case rel => exact ⟨q + 1, by omega, by go_num, by rw [had'.out], trivial⟩
                          case measure => simp [intOf]; omega
                      · have e : row.take q = row := List.take_of_length_le (by omega)
                        rw [e, hcont.out]
                        clear e
                        go_wp2_with (at_mapUpdate; refine wpList_updB _ rfl _ _ _ 66 rfl 3 67 Try.underlying66 Try.underlying3 mb f5 rfl (by exact hmap6.out) kk rfl (.slice (some ⟨wr.heap.size, 0, none⟩) 1 1) rfl ?_; intro w7 hm7 hk7 _; have hm7' := Lib.hid hm7; have hk7' := Lib.hid hk7; clear hm7 hk7)
                        go_meet
                        refine ⟨_, _, _, _, PlayD.write (c := 1) (l := [vf]) (g := wr.heap.size) h1'.out hm5'.out h3'.out hT2.out.new hSs'.out.1 hsl'.out hkk0 hkl (((Keeps.refl Nil wr).alloc (.cells #[.int .u64 vf] 30)).mono (fun _ h => h.elim)) (rowAt_one (heap_alloc_new wr _)) (.inr (Nat.le_refl _)) hm7'.out hk7'.out (fun i h0 hi => ?_) (fun i => ?_)⟩
                        · rw [hSs'.out.2.2.1 i]
                          by_cases hik : i = kk
                          · rw [hik, updM_same, hvc'.out]; simp
                          · rw [updM_other _ _ hik]; exact hT2.out.cur i h0 hi
                        · by_cases hik : i = kk
                          · rw [hik, updM_same]; simp
                          · rw [updM_other _ _ hik]; exact Nat.le_trans (hT2.out.len i) (by omega)
                  all_goals
                    have hv0 := hSs'.out.2.2.2.2 (by decide)
                    subst hv0
                    go_wp2_with fail
                    refine (hS'.out).mono ?_
                    intro e w5 hE
                    obtain ⟨rfl, O5, h1, h2, h3⟩ := hst.out _ _ _ hE
                    have hT5 := Lib.hid (show PlayD w w5 db pb (k : Int) (mo : Int) mb (100 * j + 50) (j + 1) R M O5 Q2 from
                      ⟨h1, h2, h3, hT2.out.new, hSs'.out.1, hsl'.out, fun i h0 hi => by rw [hSs'.out.2.2.1 i]; exact hT2.out.cur i h0 hi, fun i => Nat.le_trans (hT2.out.len i) (by omega)⟩)
                    clear hE h1 h2 h3 hst hS'
                    go_wp2_with fail
                    go_meet
                    exact ⟨_, _, _, _, hT5.out⟩
                · as_aux_lemma =>
                  have hF := dflush_any hT2.out.df.df hT2.out.ok hT2.out.lt (by omega)
                  have hfo := Df.Ok.flush De.L hT2.out.ok
                  have hfl := flush_lt De.L hT2.out.lt
                  have hlen12 : De.L.length ≤ 12 := by have := hT2.out.ok.len; have := hmo3.out; omega
                  have hco := code_flush De.L De
                  have hfd := hT2.out.ok.flushed
                  obtain ⟨R, hR⟩ : ∃ R, Df.flush De.L De = R := ⟨_, rfl⟩
                  rw [hR] at hF hfo hfl hco hfd
                  have hst := Lib.hid (fun (r : Ending) e w5 (hE : DfOut W2 db pb (k : Int) (mo : Int) O r R.2 e w5) => hT2.out.step hE)
                  have hfo' := Lib.hid hfo
                  have hfl' := Lib.hid (hfl.mono (show 100 * j + 2 * De.L.length ≤ 100 * j + 50 by omega))
                  have hfd' := Lib.hid hfd
                  obtain ⟨cf, hcf⟩ : ∃ c, R.1 = c := ⟨_, rfl⟩
                  rw [hcf] at hF hco hfd'
                  have hF' := Lib.hid hF
                  clear hF hfo hfl hR hfd hcf
                  have hend := Lib.hid (fun (w5 : World) (O5 : Nat → Prop) (h1 : DfIn w w5 db pb (k : Int) (mo : Int) R.2 O5) (h2 : MayAt w5 mb (k : Int) M Q2) (h3 : ∀ j, O5 j → ¬ Q2 j) => (show PlayD w w5 db pb (k : Int) (mo : Int) mb (100 * j + 50) (j + 1) R.2 M O5 Q2 from
                    ⟨h1, h2, h3, hT2.out.new, hfo'.out.1, hfl'.out, fun i h0 hi => by rw [hfo'.out.2.2.1 i]; exact hT2.out.cur i h0 hi, fun i => Nat.le_trans (hT2.out.len i) (by omega)⟩))
                  rcases hco with rfl | rfl | rfl
                  · go_wp2_with fail
                    refine (hF'.out).mono ?_
                    intro e w5 hE
                    obtain ⟨rfl, O5, h1, h2, h3⟩ := hst.out _ _ _ hE
                    obtain ⟨f5, B5, C5, hm5⟩ := h2
                    obtain ⟨OP5, hp5, _⟩ := h1.at
                    have hB := brought_any hp5 hm5 (fun i => Nat.le_trans (hT2.out.len i) (by omega)) (by omega) (fun i h0 hi => by rw [hfd'.out (by trivial) i]; exact hT2.out.cur i h0 hi)
                    have hB' := Lib.hid hB
                    have hT5 := Lib.hid (hend.out w5 O5 h1 ⟨f5, B5, C5, hm5⟩ h3)
                    clear hE h1 hm5 h3 hp5 hB hst hF' hend
                    go_wp2_with fail
                    refine (hB'.out).mono ?_
                    rintro e w6 ⟨rfl, hk6⟩
                    have hT6 := Lib.hid (hT5.out.nil hk6)
                    clear hk6
                    go_wp2_with fail
                    go_meet
                    exact ⟨_, _, _, _, hT6.out⟩
                  all_goals
                    go_wp2_with fail
                    refine (hF'.out).mono ?_
                    intro e w5 hE
                    obtain ⟨rfl, O5, h1, h2, h3⟩ := hst.out _ _ _ hE
                    have hT5 := Lib.hid (hend.out w5 O5 h1 h2 h3)
                    clear hE h1 h2 h3 hst hF' hend
                    go_wp2_with fail
                    go_meet
                    exact ⟨_, _, _, _, hT5.out⟩
            case rest =>
              obtain ⟨D2, M2, O2, Q3, hP⟩ := hcut
              obtain ⟨OP, hPg, _, _⟩ := hP.df.pg
              obtain ⟨_, _, _, _, _, p5, p6, p7⟩ := hPg.cells
              have hle : (D2.L.length : Int) ≤ (mo : Int) := hP.ok.len
              have dle : decide ((mo : Int) < (D2.L.length : Int)) = false := decide_eq_false (by omega)
              have hP' := Lib.hid hP
              have hH := Lib.hid (fun N => (held_any (hP.df.nil ((Keeps.refl Nil wc).drewN N)).df).mono (fun _ _ h => And.intro h.1 h.2.symm))
              have hL := Lib.hid (fun N => (loads_any (hP.df.nil ((Keeps.refl Nil wc).drewN N)).df).mono (fun _ _ h => And.intro h.1 h.2.symm))
              have hS := Lib.hid (fun N => (stores_any (hP.df.nil ((Keeps.refl Nil wc).drewN N)).df).mono (fun _ _ h => And.intro h.1 h.2.symm))
              have eL : (((D2.P.loads : Nat) : Int) == ((D2.P.loads : Nat) : Int)) = true := by simp
              have eS : (((D2.P.stores : Nat) : Int) == ((D2.P.stores : Nat) : Int)) = true := by simp
              have dle2 : decide (mo < D2.L.length) = false := decide_eq_false (by omega)
              have dle3 : ¬ mo < D2.L.length := by omega
              clear hP hPg hle
              go_wp2_with fail
              go_quiet (first | (go_at_call 37; exact Calls.quiet_of_same (hH.out _)) | (go_at_call 38; exact Calls.quiet_of_same (hL.out _)) | (go_at_call 39; exact Calls.quiet_of_same (hS.out _)))
              go_wp2_with fail
              go_roundw
              case rel => exact ⟨j + 1, D2, M2, O2, Q3, by omega, by go_num, (hP'.out.nil ((Keeps.refl Nil wc).drewN _)).mono (by omega)⟩
              case measure => simp [intOf]; omega
          · have hcase : (j < n ∧ ¬ j < 150) ∨ ¬ j < n := by omega
            obtain ⟨OP, hPg, _, hOpb⟩ := hT.df.pg
            obtain ⟨⟨v3, p3⟩, _, pf, _⟩ := hPg.cells
            have kE := (Keeps.refl (· = pb) wr).setCell (p := ⟨pb, 3, none⟩) (.inl rfl) (.int .i64 0)
            have h9 : PlayD w (wr.setCell ⟨pb, 3, none⟩ (.int .i64 0)) db pb (k : Int) (mo : Int) mb (100 * j) j ⟨{ D.P with every := 0 }, D.L⟩ M O Q2 :=
              ⟨hT.df.swap (P' := { D.P with every := 0 }) kE (fun OP h => h.every 0) rfl rfl rfl, hT.may.keeps kE (fun i hi e => hT.dis i (by rw [e]; exact hOpb) hi), hT.dis, hT.new, ⟨hT.ok.per, hT.ok.nodup, hT.ok.len, hT.ok.key, hT.ok.clean, hT.ok.pages⟩, ⟨hT.lt.calls, hT.lt.loads, hT.lt.stores⟩, hT.cur, hT.len⟩
            have hcalm : Df.Calm ⟨{ D.P with every := 0 }, D.L⟩ := ⟨rfl⟩
            generalize (⟨{ D.P with every := 0 }, D.L⟩ : Df) = D9 at h9 hcalm
            have hfl := Df.Calm.flush D9.L hcalm
            have hF := dflush_any h9.df.df h9.ok h9.lt (by omega)
            have hfo := Df.Ok.flush D9.L h9.ok
            have hfd := h9.ok.flushed hfl.1
            rw [hfl.1] at hF
            have hst := Lib.hid (fun e w5 (hE : DfOut (wr.setCell ⟨pb, 3, none⟩ (.int .i64 0)) db pb (k : Int) (mo : Int) O (.returned (.int .i64 0)) (Df.flush D9.L D9).2 e w5) => h9.step hE)
            have hF' := Lib.hid hF
            have hfd' := Lib.hid hfd
            have h9' := Lib.hid h9
            clear hT hin hPg hOpb kE h9 hcalm hfl hF hfo hfd
            rcases hcase with ⟨hi1, hi2⟩ | hi1
            all_goals
              go_wp2_with fail
              refine (hF'.out).mono ?_
              intro e w5 hE
              obtain ⟨rfl, O5, h1, h2, h3⟩ := hst.out _ _ hE
              obtain ⟨f5, B5, C5, hm5⟩ := h2
              obtain ⟨OP5, hp5, _⟩ := h1.at
              have hB := Lib.hid (brought_any hp5 hm5 (fun i => Nat.le_trans (h9'.out.len i) (by omega)) (by omega) (fun i h0 hi => by rw [hfd'.out i]; exact h9'.out.cur i h0 hi))
              have hkk5 := Lib.hid h1.keep
              clear hE h1 hm5 h3 hp5 hst hF'
              go_wp2_with fail
              refine (hB.out).mono ?_
              rintro e w6 ⟨rfl, hk6⟩
              have hk6' := Lib.hid hk6
              clear hk6
              go_wp2_with fail
              go_ret
              exact ⟨rfl, hkk5.out.trans hk6'.out⟩
end Go.Proofs.Ytnickcjkipemmaa
