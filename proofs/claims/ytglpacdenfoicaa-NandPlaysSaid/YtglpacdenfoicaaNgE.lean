/- the document's array: Erase (printed by Nd/mkNgE.py, tools/genR.py) -/
import Derived.Test.YtglpacdenfoicaaNgD
import Derived.Deep.DeepCutAuto
namespace Go.Proofs.Ytglpacdenfoicaa
open Go.RowKit

variable {w wr w' : World} {P : RfP} {O O' : Nat → Prop} {A A' : Nd}
theorem doOp_bad {A A1 A2 : Nd} {d : Nat} {whole : Nd → Int × Nd} {part : Nd → Int → Nd} (hc : A.cut A.ops = none) (hd : A.dead d = false) (hw : whole A1 = (43, A2)) : A.doOp A1 d whole part = (43, { A2 with fails := A2.fails + 1 }) := by
  unfold Nd.doOp
  rw [hc]
  show (if A.dead d = true then (41, A1) else if (whole A1).1 = 43 then (43, { (whole A1).2 with fails := (whole A1).2.fails + 1 }) else whole A1) = _
  rw [hd, hw]; rfl
theorem doOp_ok {A A1 A2 : Nd} {d : Nat} {whole : Nd → Int × Nd} {part : Nd → Int → Nd} (hc : A.cut A.ops = none) (hd : A.dead d = false) (hw : whole A1 = (0, A2)) : A.doOp A1 d whole part = (0, A2) := by
  unfold Nd.doOp
  rw [hc]
  show (if A.dead d = true then (41, A1) else if (whole A1).1 = 43 then (43, { (whole A1).2 with fails := (whole A1).2.fails + 1 }) else whole A1) = _
  rw [hd, hw]; rfl
theorem doOp_die {A A1 : Nd} {d : Nat} {whole : Nd → Int × Nd} {part : Nd → Int → Nd} (hc : A.cut A.ops = none) (hd : A.dead d = true) : A.doOp A1 d whole part = (41, A1) := by
  unfold Nd.doOp
  rw [hc]
  show (if A.dead d = true then (41, A1) else if (whole A1).1 = 43 then (43, { (whole A1).2 with fails := (whole A1).2.fails + 1 }) else whole A1) = _
  rw [hd]; rfl
theorem doOp_cut {A A1 : Nd} {d : Nat} {q : Int} {whole : Nd → Int × Nd} {part : Nd → Int → Nd} (hc : A.cut A.ops = some q) (hd : A.dead d = false) : A.doOp A1 d whole part = (40, part { A1 with off := true, cuts := A.cuts + 1 } q) := by
  unfold Nd.doOp
  rw [hc]
  show (40, if A.dead d = true then _ else _) = _
  rw [hd]; rfl
theorem doOp_cutdie {A A1 : Nd} {d : Nat} {q : Int} {whole : Nd → Int × Nd} {part : Nd → Int → Nd} (hc : A.cut A.ops = some q) (hd : A.dead d = true) : A.doOp A1 d whole part = (40, { A1 with off := true, cuts := A.cuts + 1 }) := by
  unfold Nd.doOp
  rw [hc]
  show (40, if A.dead d = true then _ else _) = _
  rw [hd]; rfl
theorem erase_bad_n {A : Nd} {d n : Nat} (hc : A.cut A.ops = none) (hd : A.dead d = false) (hb : A.badP A.ops d n 3 = true) : A.erase d n = (43, { A.tickE.wear d n with fails := A.fails + 1 }) :=
  doOp_bad hc hd (show Nd.eraseW A.ops d n A.tickE = (43, A.tickE.wear d n) by unfold Nd.eraseW; rw [show A.tickE.badP A.ops d n 3 = true from hb]; rfl)
theorem erase_ok_n {A : Nd} {d n : Nat} (hc : A.cut A.ops = none) (hd : A.dead d = false) (hb : A.badP A.ops d n 3 = false) : A.erase d n = (0, (A.tickE.wear d n).eraseOk d n) :=
  doOp_ok hc hd (show Nd.eraseW A.ops d n A.tickE = (0, (A.tickE.wear d n).eraseOk d n) by unfold Nd.eraseW; rw [show A.tickE.badP A.ops d n 3 = false from hb]; rfl)
theorem erase_bad_c {A : Nd} {d n : Nat} {q : Int} (hc : A.cut A.ops = some q) (hd : A.dead d = false) (hb : A.badP A.ops d n 3 = true) : A.erase d n = (40, (({ A.tickE with off := true, cuts := A.cuts + 1 } : Nd).wear d n).setB d n (((({ A.tickE with off := true, cuts := A.cuts + 1 } : Nd).wear d n).B d n).at (-1))) := by
  refine (doOp_cut (A1 := A.tickE) hc hd).trans ?_
  unfold Nd.eraseP
  rw [show ({ A.tickE with off := true, cuts := A.cuts + 1 } : Nd).badP A.ops d n 3 = true from hb]
  rfl
theorem erase_ok_c {A : Nd} {d n : Nat} {q : Int} (hc : A.cut A.ops = some q) (hd : A.dead d = false) (hb : A.badP A.ops d n 3 = false) : A.erase d n = (40, ((({ A.tickE with off := true, cuts := A.cuts + 1 } : Nd).wear d n).eraseCut d n (min q.toNat A.S.pages)).setB d n ((((({ A.tickE with off := true, cuts := A.cuts + 1 } : Nd).wear d n).eraseCut d n (min q.toNat A.S.pages)).B d n).at (-1))) := by
  refine (doOp_cut (A1 := A.tickE) hc hd).trans ?_
  unfold Nd.eraseP
  rw [show ({ A.tickE with off := true, cuts := A.cuts + 1 } : Nd).badP A.ops d n 3 = false from hb]
  rfl
theorem eraseCut_zero (A : Nd) (d n : Nat) : A.eraseCut d n 0 = A := by
  unfold Nd.eraseCut Nd.setB Bk.clear
  cases A
  simp only [Nd.mk.injEq, true_and, and_true]
  funext i j
  split
  · rename_i h
    rw [h.1, h.2]
    simp
  · rfl
theorem RfI.blank {d n i x c : Nat} {w1 : World} (h : RfI w P O w1 (A.eraseCut d n i) O') (hk : Keeps Nil w1 wr) (hd : d < A.S.dies) (hn : n < A.S.blocks) (hp : i < A.S.pages) (hx : NumRow .u8 wr 5 (some ⟨x, 0, none⟩) c (List.replicate A.S.bytes 255)) (hx1 : w1.heap.size ≤ x) :
    RfI w P O (wr.setCell ⟨P.pb (d * A.S.blocks + n), i, none⟩ (.slice (some ⟨x, 0, none⟩) A.S.bytes c)) (A.eraseCut d n (i + 1)) (fun k => O' k ∨ k = x) := by
  have h1 := h.page (k' := (A.B d n).clear (i + 1)) hk hd hn hp hx hx1 (by rw [List.length_replicate]; rfl) (by unfold Nd.eraseCut; rw [Nd.setB_same]; rfl) (by unfold Nd.eraseCut; rw [Nd.setB_same]; rfl) (fun q hq => by
    unfold Nd.eraseCut
    rw [Nd.setB_same]
    show pgBytes A.S.bytes (if q < i + 1 then none else (A.B d n).pg q) = if q = i then List.replicate A.S.bytes 255 else pgBytes A.S.bytes (if q < i then none else (A.B d n).pg q)
    by_cases e1 : q < i
    · rw [if_pos (by omega), if_neg (by omega), if_pos e1]
    · by_cases e2 : q = i
      · rw [if_pos (by omega), if_pos e2]; rfl
      · rw [if_neg (by omega), if_neg e2, if_neg e1])
  have he : (A.eraseCut d n i).setB d n ((A.B d n).clear (i + 1)) = A.eraseCut d n (i + 1) := by unfold Nd.eraseCut; rw [Nd.setB_setB]
  rw [he] at h1
  exact h1
set_option maxHeartbeats 16000000 in
set_option maxRecDepth 100000 in
theorem erase46 {d n b : Nat} (h : RfQ w P A O) (hg : A.Good b) (hb : b ≤ 1000000) (hoff : A.off = false) (hd : d < A.S.dies) (hn : n < A.S.blocks) :
    Calls Try.prog 46 #[.pointer (some ⟨P.rb, 0, none⟩), .int .i64 (d : Nat), .int .i64 (n : Nat)] w (RfRes w P O (.int .i64 (A.erase d n).1) (A.erase d n).2) := by
  have hL : P.L.length ≤ 2000 := by
    have h1 := congrArg List.length (RfB.fls h)
    simp only [List.length_map] at h1
    have := hg.ok.len; omega
  have hIn := Lib.hid (in65 h d n)
  rw [show inAt A.S d n = true by unfold inAt; simp; omega] at hIn
  obtain ⟨db, hF⟩ := RfB.flat h hg.ok.S hd hn
  have c7 := RfB.cell h 7
  simp only [rfCells, List.getElem?_toArray, List.getElem?_cons_zero, List.getElem?_cons_succ] at c7
  rw [hoff] at c7
  obtain ⟨m, w1, w2, lt, c1, c4⟩ := hF
  obtain ⟨ix, hix⟩ : ∃ ix, d * A.S.blocks + n = ix := ⟨_, rfl⟩
  obtain ⟨len, hlen⟩ : ∃ len, A.S.dies * A.S.blocks = len := ⟨_, rfl⟩
  obtain ⟨N, hN⟩ : ∃ N, A.S.blocks = N := ⟨_, rfl⟩
  rw [hix] at w2 lt
  rw [hlen] at lt c4
  rw [hN] at m c1
  have hI0 := Lib.hid (RfI.begin h)
  have hg' := Lib.hid hg
  have hd' := Lib.hid hd
  have hn' := Lib.hid hn
  have hix' := Lib.hid hix
  have hE : ∃ r, A.erase d n = r := ⟨_, rfl⟩
  obtain ⟨r, hr⟩ := hE
  rw [hr]
  have hr' := Lib.hid hr
  have hops := hg.lt.ops
  have hers := hg.lt.erases
  have hcts := hg.lt.cuts
  have hfls := hg.lt.fails
  have herb := hg.lt.er d n
  obtain ⟨p1, p2⟩ := (show A.S.pages ≤ 64 ∧ A.S.bytes ≤ 4096 from ⟨hg.ok.S.p2, hg.ok.S.n2⟩)
  clear h hg hd hn hix hlen hN hr
  go_enter Try.func46, Try.ntmps46
  go_wp2_with fail
  refine (hIn.out).mono ?_
  rintro e w3 ⟨rfl, hw3⟩
  rw [hw3]
  clear hw3 w3 hIn
  go_wp2_with fail
  go_quiet (fail)
  clear c7 c1 c4 m w1 w2 lt
  have hI1 := Lib.hid (hI0.out.nil ((Keeps.refl Nil w).drewN nq))
  obtain ⟨wa, hwa⟩ : ∃ wa, w.drewN nq = wa := ⟨_, rfl⟩
  rw [hwa] at hI1
  rw [hwa]
  clear hI0 hwa
  have hB := Lib.hid (begin66I hI1.out hops hb)
  clear hI1
  go_wp2_with fail
  refine (hB.out).mono ?_
  rintro e w3 ⟨rfl, hI3⟩
  have c11 := RfB.cell hI3.1 11
  have f11 := frozen_of_heap hI3.blk 11
  simp only [rfCells, List.getElem?_toArray, List.getElem?_cons_zero, List.getElem?_cons_succ] at c11
  have k4 : Keeps (· = P.rb) w3 (w3.setCell ⟨P.rb, 11, none⟩ (.int .i64 ((A.erases : Int) + 1))) := (Keeps.refl (· = P.rb) w3).setCell (.inl rfl) _
  have hI4 := hI3.cells (A' := A.tickE) k4 (by rw [heap_setCell_same hI3.blk]; simp [rfCells, Nd.tickE]) rfl rfl rfl
  obtain ⟨w4, hw4⟩ : ∃ w4, w3.setCell ⟨P.rb, 11, none⟩ (.int .i64 ((A.erases : Int) + 1)) = w4 := ⟨_, rfl⟩
  rw [hw4] at hI4
  have hI4' := Lib.hid hI4
  have hw4' := Lib.hid hw4
  have hCt := Lib.hid (cut67 hI4.1 hL (A.ops : Int))
  have hSt := Lib.hid (struck68 hI4.1 hL (A.ops : Int) 4 d n)
  rw [show A.tickE.cut (A.ops : Int) = A.cut A.ops from rfl] at hCt
  rw [struck_die _ _ _ _ 0, show A.tickE.struck (A.ops : Int) 4 d 0 = A.dead d from rfl] at hSt
  clear hI3 hI4 hw4 hB k4
  go_upto_region 9 with (fail)
  rw [hw4'.out]
  clear c11 f11 hw4' w3
  obtain ⟨ct, hct⟩ : ∃ ct, A.cut A.ops = ct := ⟨_, rfl⟩
  obtain ⟨dd, hdd⟩ : ∃ dd, A.dead d = dd := ⟨_, rfl⟩
  rw [hct] at hCt
  rw [hdd] at hSt
  have hr2 := Lib.hid (show ∀ x, A.erase d n = x → r = x from fun x hx => hr'.out.symm.trans hx)
  have hdd' := Lib.hid hdd
  have hct' := Lib.hid hct
  clear hct hdd hr'
  cases ct with
  | none =>
    rw [show cutV none = #[.int .i64 0, .bool false] from rfl] at hCt
    go_wp2_with fail
    refine (hCt.out).mono ?_
    rintro e w5 ⟨rfl, hw5⟩
    rw [hw5]
    clear hw5 w5 hCt
    go_wp2_with fail
    refine (hSt.out).mono ?_
    rintro e w5 ⟨rfl, k5⟩
    have hI5 := Lib.hid (hI4'.out.nil k5)
    clear k5 hSt hI4'
    cases dd with
    | true =>
      have hr3 := Lib.hid (hr2.out _ (doOp_die (A1 := A.tickE) hct'.out hdd'.out))
      go_wp2_with fail
      go_ret
      rw [hr3.out]
      exact ⟨rfl, _, hI5.out⟩
    | false =>
      have e2 : w5.cell? ⟨P.bb, ix * 3 + 2, none⟩ = some (.int .i64 ((A.B d n).er : Nat)) := by rw [← hix'.out]; exact (RfB.cellD hI5.out.1 hd'.out hn'.out).2.2.1
      have ez : w5.frozen? ⟨P.bb, ix * 3 + 2, none⟩ = false := (RfB.cellD hI5.out.1 hd'.out hn'.out).2.2.2 _
      obtain ⟨er, her⟩ : ∃ er, (A.B d n).er = er := ⟨_, rfl⟩
      have hIW : RfI w P O (w5.setCell ⟨P.bb, ix * 3 + 2, none⟩ (.int .i64 ((er : Int) + 1))) (A.tickE.wear d n) O := by
        rw [← hix'.out, ← her]; exact hI5.out.er hd'.out hn'.out
      rw [her] at e2 herb
      obtain ⟨wW, hwW⟩ : ∃ wW, w5.setCell ⟨P.bb, ix * 3 + 2, none⟩ (.int .i64 ((er : Int) + 1)) = wW := ⟨_, rfl⟩
      rw [hwW] at hIW
      have hwW' := Lib.hid hwW
      have hS3 := Lib.hid (struck68 hIW.1 hL (A.ops : Int) 3 d n)
      have hS6 := Lib.hid (fun W (hk : Keeps Nil wW W) => struck68 (RfB.nil hIW.1 hk) hL (A.ops : Int) 6 d n)
      rw [show (A.tickE.wear d n).struck (A.ops : Int) 3 d n = A.struck A.ops 3 d n from rfl] at hS3
      rw [show (A.tickE.wear d n).struck (A.ops : Int) 6 d n = A.struck A.ops 6 d n from rfl] at hS6
      obtain ⟨s3, hs3⟩ : ∃ s, A.struck A.ops 3 d n = s := ⟨_, rfl⟩
      obtain ⟨s6, hs6⟩ : ∃ s, A.struck A.ops 6 d n = s := ⟨_, rfl⟩
      have hbad := Lib.hid (show A.badP A.ops d n 3 = (s3 || s6) by unfold Nd.badP; rw [hs3, hs6])
      rw [hs3] at hS3
      rw [hs6] at hS6
      have hIW' := Lib.hid hIW
      clear hIW hwW hI5 hs3 hs6 her
      go_upto_region 19 with (fail)
      rw [hwW'.out]
      clear e2 ez hwW'
      go_wp2_with fail
      refine (hS3.out).mono ?_
      rintro e wB ⟨rfl, kB⟩
      have hS6b := Lib.hid (hS6.out wB kB)
      have hIB := Lib.hid (hIW'.out.nil kB)
      clear kB hS3 hS6 hIW'
      cases s3 with
      | true =>
        have hb2 := Lib.hid (show A.badP A.ops d n 3 = true by rw [hbad.out]; rfl)
        clear hbad hS6b
        have g2 := RfB.cell hIB.out.1 2
        have g3 := RfB.cell hIB.out.1 3
        simp only [rfCells, List.getElem?_toArray, List.getElem?_cons_zero, List.getElem?_cons_succ] at g2 g3
        rw [show (A.tickE.wear d n).S.pages = A.S.pages from rfl] at g2
        rw [show (A.tickE.wear d n).S.bytes = A.S.bytes from rfl] at g3
        have g13 := RfB.cell hIB.out.1 13
        have z13 := frozen_of_heap hIB.out.blk 13
        simp only [rfCells, List.getElem?_toArray, List.getElem?_cons_zero, List.getElem?_cons_succ] at g13
        rw [show (A.tickE.wear d n).fails = A.fails from rfl] at g13
        have kf : Keeps (· = P.rb) wB (wB.setCell ⟨P.rb, 13, none⟩ (.int .i64 ((A.fails : Int) + 1))) := (Keeps.refl (· = P.rb) wB).setCell (.inl rfl) _
        have hF := Lib.hid (hIB.out.cells (A' := { A.tickE.wear d n with fails := A.fails + 1 }) kf (by rw [heap_setCell_same hIB.out.blk]; rfl) rfl rfl rfl)
        have hr3 := Lib.hid (hr2.out _ (erase_bad_n hct'.out hdd'.out hb2.out))
        clear kf hr2 hb2
        go_wp2_with fail
        go_loopw [15] (fun i wr => i = .int .i64 0 ∧ wr = wB) (fun _ _ => 0)
        case atStart => exact ⟨rfl, rfl⟩
        case round =>
          obtain ⟨rfl, rfl⟩ := hrel
          go_wp2_with fail
          all_goals
            go_ret
            rw [hr3.out]
            exact ⟨rfl, _, hF.out⟩
      | false =>
        go_wp2_with fail
        refine (hS6b.out).mono ?_
        rintro e wC ⟨rfl, kC⟩
        have hIC := Lib.hid (hIB.out.nil kC)
        clear kC hS6b hIB
        cases s6 with
        | true =>
          have hb2 := Lib.hid (show A.badP A.ops d n 3 = true by rw [hbad.out]; rfl)
          clear hbad
          have g2 := RfB.cell hIC.out.1 2
          have g3 := RfB.cell hIC.out.1 3
          simp only [rfCells, List.getElem?_toArray, List.getElem?_cons_zero, List.getElem?_cons_succ] at g2 g3
          rw [show (A.tickE.wear d n).S.pages = A.S.pages from rfl] at g2
          rw [show (A.tickE.wear d n).S.bytes = A.S.bytes from rfl] at g3
          have g13 := RfB.cell hIC.out.1 13
          have z13 := frozen_of_heap hIC.out.blk 13
          simp only [rfCells, List.getElem?_toArray, List.getElem?_cons_zero, List.getElem?_cons_succ] at g13
          rw [show (A.tickE.wear d n).fails = A.fails from rfl] at g13
          have kf : Keeps (· = P.rb) wC (wC.setCell ⟨P.rb, 13, none⟩ (.int .i64 ((A.fails : Int) + 1))) := (Keeps.refl (· = P.rb) wC).setCell (.inl rfl) _
          have hF := Lib.hid (hIC.out.cells (A' := { A.tickE.wear d n with fails := A.fails + 1 }) kf (by rw [heap_setCell_same hIC.out.blk]; rfl) rfl rfl rfl)
          have hr3 := Lib.hid (hr2.out _ (erase_bad_n hct'.out hdd'.out hb2.out))
          clear kf hr2 hb2
          go_wp2_with fail
          go_loopw [15] (fun i wr => i = .int .i64 0 ∧ wr = wC) (fun _ _ => 0)
          case atStart => exact ⟨rfl, rfl⟩
          case round =>
            obtain ⟨rfl, rfl⟩ := hrel
            go_wp2_with fail
            all_goals
              go_ret
              rw [hr3.out]
              exact ⟨rfl, _, hF.out⟩
        | false =>
          have hb2 := Lib.hid (show A.badP A.ops d n 3 = false by rw [hbad.out]; rfl)
          clear hbad
          have g2 := RfB.cell hIC.out.1 2
          have g3 := RfB.cell hIC.out.1 3
          simp only [rfCells, List.getElem?_toArray, List.getElem?_cons_zero, List.getElem?_cons_succ] at g2 g3
          rw [show (A.tickE.wear d n).S.pages = A.S.pages from rfl] at g2
          rw [show (A.tickE.wear d n).S.bytes = A.S.bytes from rfl] at g3
          have hst := Lib.hid (show ∃ O', RfI w P O wC ((A.tickE.wear d n).eraseCut d n 0) O' from ⟨_, by rw [eraseCut_zero]; exact hIC.out⟩)
          go_wp2_with fail
          clear hIC g2 g3
          go_loopw [15] (fun i wr => ∃ j : Nat, j ≤ A.S.pages ∧ i = .int .i64 j ∧ Hid (∃ O', RfI w P O wr ((A.tickE.wear d n).eraseCut d n j) O')) (fun i _ => A.S.pages - (intOf i).toNat)
          case atStart => exact ⟨0, Nat.zero_le _, rfl, hst⟩
          case round =>
            clear hst
            obtain ⟨j, hj, rfl, hrel⟩ := hrel
            obtain ⟨O2, hI2⟩ := hrel.out
            have g3 := RfB.cell hI2.1 3
            simp only [rfCells, List.getElem?_toArray, List.getElem?_cons_zero, List.getElem?_cons_succ] at g3
            rw [show ((A.tickE.wear d n).eraseCut d n j).S.bytes = A.S.bytes from rfl] at g3
            have u0 : wr.cell? ⟨P.bb, ix * 3, none⟩ = some (.slice (some ⟨P.pb ix, 0, none⟩) A.S.pages (P.pc ix)) := by rw [← hix'.out]; exact (RfB.cellD hI2.1 hd'.out hn'.out).1
            by_cases hjb : j < A.S.pages
            · obtain ⟨hne1, hne2, _⟩ := hI2.pbne hd'.out hn'.out
              have hBk := Lib.hid (blank42 wr.drew A.S.bytes (by omega))
              obtain ⟨xo, co, p0, pz, _, _⟩ := hI2.pgs (p := j) hd'.out hn'.out (show j < A.S.pages by omega)
              have p0 : wr.cell? ⟨P.pb ix, j, none⟩ = some (.slice (some ⟨xo, 0, none⟩) A.S.bytes co) := by rw [← hix'.out]; exact p0
              have pz : wr.frozen? ⟨P.pb ix, j, none⟩ = false := by rw [← hix'.out]; exact pz
              have hne1 : P.pb ix ≠ P.rb := by rw [← hix'.out]; exact hne1
              have hne2 : P.pb ix ≠ P.bb := by rw [← hix'.out]; exact hne2
              have hj64 : j < 64 := by omega
              have hjp : j < A.S.pages := by omega
              have hby1 := hg'.out.ok.S.n1
              have hI2' := Lib.hid hI2
              have hS := Lib.hid (show ∀ W, Keeps (· = P.pb ix) wr W → W.cell? ⟨P.bb, ix * 3, none⟩ = some (.slice (some ⟨P.pb ix, 0, none⟩) A.S.pages (P.pc ix)) ∧ W.cell? ⟨P.rb, 3, none⟩ = some (.int .i64 (A.S.bytes : Nat)) from fun W hW => ⟨hW.cell u0 (fun e => hne2 e.symm), hW.cell g3 (fun e => hne1 e.symm)⟩)
              clear hI2 hrel u0 g3 hne1 hne2
              go_upto_region 26 with (fail)
              refine wp_region_held_drew (S := fun W => W.cell? ⟨P.bb, ix * 3, none⟩ = some (.slice (some ⟨P.pb ix, 0, none⟩) A.S.pages (P.pc ix)) ∧ W.cell? ⟨P.rb, 3, none⟩ = some (.int .i64 (A.S.bytes : Nat))) (by kernel_rfl) ?q1a (fun hHeld => ?q1b)
              case q1a => (try dsimp only); first | exact hS.out _ (Keeps.refl (· = P.pb ix) wr).drew | exact hS.out _ k9.out | exact hS.out _ (k9.out.setCell (p := ⟨P.pb ix, j, none⟩) (.inl rfl) _)
              case q1b =>
                refine wpAnyH_take (i := 0) (oi := _) (v := ?q1_1v) rfl (by kernel_rfl) (by kernel_rfl) (by kernel_rfl) (fun _ _ _ h => h) (Or.inl ⟨by rfl, ?q1_1y⟩) (by assumption) ?q1_1r
                case q1_1y => (intro w0 hSw; (try dsimp only at hSw); go_simp; try (with_reducible rfl))
                case q1_1r =>
                  simp only [Act.put, List.getElem_toArray, List.getElem_cons_zero, List.setIfInBounds_toArray, List.set_cons_zero, List.set_cons_succ]
                  refine wpAnyH_take (i := 1) (oi := _) (v := ?q1_2v) rfl (by kernel_rfl) (by kernel_rfl) (by kernel_rfl) (fun _ _ _ h => h) (Or.inl ⟨by rfl, ?q1_2y⟩) (by assumption) ?q1_2r
                  case q1_2y => (intro w0 hSw; (try dsimp only at hSw); go_simp; try (with_reducible rfl))
                  case q1_2r =>
                    simp only [Act.put, List.getElem_toArray, List.getElem_cons_succ, List.getElem_cons_zero, List.setIfInBounds_toArray, List.set_cons_zero, List.set_cons_succ]
                    refine wpAnyH_take (i := 2) (oi := _) (v := ?q1_3v) rfl (by kernel_rfl) (by kernel_rfl) (by kernel_rfl) (fun _ _ _ h => h) (Or.inl ⟨by rfl, ?q1_3y⟩) (by assumption) ?q1_3r
                    case q1_3y => (intro w0 hSw; (try dsimp only at hSw); go_simp; try (with_reducible rfl))
                    case q1_3r =>
                      simp only [Act.put, List.getElem_toArray, List.getElem_cons_succ, List.getElem_cons_zero, List.setIfInBounds_toArray, List.set_cons_zero, List.set_cons_succ]
                      refine wpAnyH_take (i := 3) (oi := _) (v := ?q1_4v) rfl (by kernel_rfl) (by kernel_rfl) (by kernel_rfl) (fun _ _ _ h => h) (Or.inl ⟨by rfl, ?q1_4y⟩) (by assumption) ?q1_4r
                      case q1_4y => (intro w0 hSw; (try dsimp only at hSw); go_simp; try (with_reducible rfl))
                      case q1_4r =>
                        simp only [Act.put, List.getElem_toArray, List.getElem_cons_succ, List.getElem_cons_zero, List.setIfInBounds_toArray, List.set_cons_zero, List.set_cons_succ]
                        refine wpAnyH_take (i := 4) (oi := _) (v := ?q1_5v) rfl (by kernel_rfl) (by kernel_rfl) (by kernel_rfl) (fun _ _ _ h => h) (Or.inl ⟨by rfl, ?q1_5y⟩) (by assumption) ?q1_5r
                        case q1_5y => (intro w0 hSw; (try dsimp only at hSw); go_simp; try (with_reducible rfl))
                        case q1_5r =>
                          simp only [Act.put, List.getElem_toArray, List.getElem_cons_succ, List.getElem_cons_zero, List.setIfInBounds_toArray, List.set_cons_zero, List.set_cons_succ]
                          refine wpAnyH_take (i := 5) (oi := _) (v := ?q1_6v) rfl (by kernel_rfl) (by kernel_rfl) (by kernel_rfl) (fun _ _ _ h => h) (Or.inl ⟨by rfl, ?q1_6y⟩) (by assumption) ?q1_6r
                          case q1_6y => (intro w0 hSw; (try dsimp only at hSw); go_simp; try (with_reducible rfl))
                          case q1_6r =>
                            simp only [Act.put, List.getElem_toArray, List.getElem_cons_succ, List.getElem_cons_zero, List.setIfInBounds_toArray, List.set_cons_zero, List.set_cons_succ]
                            refine wpAnyH_take (i := 6) (oi := _) (v := ?q1_7v) rfl (by kernel_rfl) (by kernel_rfl) (by kernel_rfl) (fun _ _ _ h => h) (Or.inl ⟨by rfl, ?q1_7y⟩) (by assumption) ?q1_7r
                            case q1_7y => (intro w0 hSw; (try dsimp only at hSw); go_simp; try (with_reducible rfl))
                            case q1_7r =>
                              simp only [Act.put, List.getElem_toArray, List.getElem_cons_succ, List.getElem_cons_zero, List.setIfInBounds_toArray, List.set_cons_zero, List.set_cons_succ]
                              refine wpAnyH_take (i := 7) (oi := _) (v := ?q1_8v) rfl (by kernel_rfl) (by kernel_rfl) (by kernel_rfl) (fun _ _ _ h => h) (Or.inl ⟨by rfl, ?q1_8y⟩) (by assumption) ?q1_8r
                              case q1_8y => (intro w0 hSw; (try dsimp only at hSw); go_simp; try (with_reducible rfl))
                              case q1_8r =>
                                simp only [Act.put, List.getElem_toArray, List.getElem_cons_succ, List.getElem_cons_zero, List.setIfInBounds_toArray, List.set_cons_zero, List.set_cons_succ]
                                refine wpAnyH_take (i := 8) (oi := _) (v := ?q1_9v) rfl (by kernel_rfl) (by kernel_rfl) (by kernel_rfl) (fun _ _ _ h => h) (Or.inl ⟨by rfl, ?q1_9y⟩) (by assumption) ?q1_9r
                                case q1_9y => (intro w0 hSw; (try dsimp only at hSw); go_simp; try (with_reducible rfl))
                                case q1_9r =>
                                  simp only [Act.put, List.getElem_toArray, List.getElem_cons_succ, List.getElem_cons_zero, List.setIfInBounds_toArray, List.set_cons_zero, List.set_cons_succ]
                                  refine wpAnyH_take (i := 9) (oi := _) (v := ?q1_10v) rfl (by kernel_rfl) (by kernel_rfl) (by kernel_rfl) (fun _ _ _ h => h) (Or.inl ⟨by rfl, ?q1_10y⟩) (by assumption) ?q1_10r
                                  case q1_10y => (intro w0 hSw; (try dsimp only at hSw); go_simp; try (with_reducible rfl))
                                  case q1_10r =>
                                    simp only [Act.put, List.getElem_toArray, List.getElem_cons_succ, List.getElem_cons_zero, List.setIfInBounds_toArray, List.set_cons_zero, List.set_cons_succ]
                                    refine wpAnyH_ready (rs := [10]) (by kernel_rfl) (by simp) ?q1_11g
                                    case q1_11g =>
                                      refine AllReadyH.cons (o := _) rfl (fun K hK => ?q1_11k) AllReadyH.nil
                                      case q1_11k =>
                                        go_simp
                                        (refine (hBk.out).mono ?_; rintro e w9 ⟨a9, c9, rfl, hr9, k9, hn9⟩; have k9n := Lib.hid ((Keeps.refl Nil wr).drew.trans k9); have k9 := Lib.hid ((Keeps.refl (· = P.pb ix) wr).drew.trans (k9.mono (fun _ h => h.elim))); have hr9' := Lib.hid hr9; have hn9' := Lib.hid hn9; have p9 := k9n.out.cell p0 (fun h => h); have z9 := k9n.out.frozen pz (lt_of_cell p0) (fun h => h); clear hr9 hn9)
                                        refine hK.out _ _ ?q1_11s (fun hHeld => ?q1_11t)
                                        case q1_11s => (try dsimp only); first | exact hS.out _ (Keeps.refl (· = P.pb ix) wr).drew | exact hS.out _ k9.out | exact hS.out _ (k9.out.setCell (p := ⟨P.pb ix, j, none⟩) (.inl rfl) _)
                                        case q1_11t =>
                                          clear hK K
                                          try simp only [Act.put, List.getElem_toArray, List.getElem_cons_succ, List.getElem_cons_zero, List.setIfInBounds_toArray, List.set_cons_zero, List.set_cons_succ]
                                          refine wpAnyH_take (i := 11) (oi := _) (v := ?q1_12v) rfl (by kernel_rfl) (by kernel_rfl) (by kernel_rfl) (fun _ _ _ h => h) (Or.inl ⟨by rfl, ?q1_12y⟩) (by assumption) ?q1_12r
                                          case q1_12y => (intro w0 hSw; (try dsimp only at hSw); go_simp; try (with_reducible rfl))
                                          case q1_12r =>
                                            simp only [Act.put, List.getElem_toArray, List.getElem_cons_succ, List.getElem_cons_zero, List.setIfInBounds_toArray, List.set_cons_zero, List.set_cons_succ]
                                            refine wpAnyH_ready (rs := [12]) (by kernel_rfl) (by simp) ?q1_13g
                                            case q1_13g =>
                                              refine AllReadyH.cons (o := _) rfl (fun K hK => ?q1_13k) AllReadyH.nil
                                              case q1_13k =>
                                                go_simp
                                                refine hK.out _ _ ?q1_13s (fun hHeld => ?q1_13t)
                                                case q1_13s => (try dsimp only); first | exact hS.out _ (Keeps.refl (· = P.pb ix) wr).drew | exact hS.out _ k9.out | exact hS.out _ (k9.out.setCell (p := ⟨P.pb ix, j, none⟩) (.inl rfl) _)
                                                case q1_13t =>
                                                  clear hK K
                                                  try simp only [Act.put, List.getElem_toArray, List.getElem_cons_succ, List.getElem_cons_zero, List.setIfInBounds_toArray, List.set_cons_zero, List.set_cons_succ]
                                                  refine wpAnyH_done (by kernel_rfl) ?q1z _
                                                  case q1z =>
                                                    obtain ⟨x9, hx9, hx9n⟩ : ∃ x, a9 = some ⟨x, 0, none⟩ ∧ wr.heap.size ≤ x := by
                                                      rcases RowAt.form hr9'.out with ⟨_, h, _⟩ | ⟨g, _, h, _⟩
                                                      · rw [List.length_replicate] at h; omega
                                                      · exact ⟨g, h, hn9'.out g (by rw [h]; rfl)⟩
                                                    subst hx9
                                                    have hD := Lib.hid (show ∃ O', RfI w P O (w9.setCell ⟨P.pb ix, j, none⟩ (.slice (some ⟨x9, 0, none⟩) A.S.bytes c9)) ((A.tickE.wear d n).eraseCut d n (j + 1)) O' from ⟨_, by rw [← hix'.out]; exact hI2'.out.blank k9n.out hd'.out hn'.out (show j < A.S.pages by omega) hr9'.out hx9n⟩)
                                                    clear hI2' hr9' hn9' k9 k9n p9 z9 hS hx9n
                                                    go_wp2_with fail
                                                    go_roundw
                                                    case rel => exact ⟨j + 1, by omega, by go_num, hD⟩
                                                    case measure => simp [intOf]; omega
            · have hjn : j = A.S.pages := by omega
              have v1 : wr.cell? ⟨P.bb, ix * 3 + 1, none⟩ = some (.int .i64 (((A.tickE.wear d n).eraseCut d n j).B d n).next) := by rw [← hix'.out]; exact (RfB.cellD hI2.1 hd'.out hn'.out).2.1
              have vz : wr.frozen? ⟨P.bb, ix * 3 + 1, none⟩ = false := (RfB.cellD hI2.1 hd'.out hn'.out).2.2.2 _
              have hI2' := Lib.hid hI2
              clear hI2 hrel
              go_wp2_with fail
              go_ret
              have hr3 := hr2.out _ (erase_ok_n hct'.out hdd'.out hb2.out)
              rw [hr3]
              have hend := RfI.next (hI2'.out) hd'.out hn'.out 0
              rw [hjn, show ((A.tickE.wear d n).eraseCut d n A.S.pages).setB d n ((((A.tickE.wear d n).eraseCut d n A.S.pages).B d n).at 0) = (A.tickE.wear d n).eraseOk d n by unfold Nd.eraseCut Nd.eraseOk; rw [Nd.setB_same, Nd.setB_setB]; rfl] at hend
              refine ⟨rfl, O2, ?_⟩
              rw [← hix'.out]
              exact hend
  | some pt =>
    rw [show cutV (some pt) = #[.int .i64 pt, .bool true] from rfl] at hCt
    have hpt := cut_part hg'.out.ok hct'.out
    go_wp2_with fail
    refine (hCt.out).mono ?_
    rintro e w5 ⟨rfl, hw5⟩
    rw [hw5]
    clear hw5 w5 hCt
    go_wp2_with fail
    refine (hSt.out).mono ?_
    rintro e w5 ⟨rfl, k5⟩
    have hI5 := hI4'.out.nil k5
    have c7 := RfB.cell hI5.1 7
    have f7 := frozen_of_heap hI5.blk 7
    have c14 := RfB.cell hI5.1 14
    have f14 := frozen_of_heap hI5.blk 14
    simp only [rfCells, List.getElem?_toArray, List.getElem?_cons_zero, List.getElem?_cons_succ] at c7 c14
    rw [show A.tickE.cuts = A.cuts from rfl] at c14
    have k6 : Keeps (· = P.rb) w5 ((w5.setCell ⟨P.rb, 7, none⟩ (.bool true)).setCell ⟨P.rb, 14, none⟩ (.int .i64 ((A.cuts : Int) + 1))) := ((Keeps.refl (· = P.rb) w5).setCell (p := ⟨P.rb, 7, none⟩) (.inl rfl) _).setCell (.inl rfl) _
    have hI6 := hI5.cells (A' := { A.tickE with off := true, cuts := A.cuts + 1 }) k6 (by rw [heap_setCell_same (heap_setCell_same hI5.blk _ _)]; simp [rfCells, Nd.tickE]) rfl rfl rfl
    have c14b : (w5.setCell ⟨P.rb, 7, none⟩ (.bool true)).cell? ⟨P.rb, 14, none⟩ = some (.int .i64 (A.cuts : Nat)) := by rw [cell_of_heap (heap_setCell_same hI5.blk _ _)]; simp [rfCells, Nd.tickE]
    have f14b : (w5.setCell ⟨P.rb, 7, none⟩ (.bool true)).frozen? ⟨P.rb, 14, none⟩ = false := frozen_of_heap (heap_setCell_same hI5.blk _ _) 14
    obtain ⟨w6, hw6⟩ : ∃ w6, (w5.setCell ⟨P.rb, 7, none⟩ (.bool true)).setCell ⟨P.rb, 14, none⟩ (.int .i64 ((A.cuts : Int) + 1)) = w6 := ⟨_, rfl⟩
    rw [hw6] at hI6
    have hw6' := Lib.hid hw6
    have hI6' := Lib.hid hI6
    clear k5 hSt hI4' hI5 hI6 k6 hw6
    go_upto_region 14 with (fail)
    rw [hw6'.out]
    clear hw6' c7 f7 c14 f14 c14b f14b w5
    cases dd with
    | true =>
      have hr3 := Lib.hid (hr2.out _ (doOp_cutdie (A1 := A.tickE) hct'.out hdd'.out))
      go_wp2_with fail
      go_ret
      rw [hr3.out]
      exact ⟨rfl, _, hI6'.out⟩
    | false =>
      have e2 : w6.cell? ⟨P.bb, ix * 3 + 2, none⟩ = some (.int .i64 ((A.B d n).er : Nat)) := by rw [← hix'.out]; exact (RfB.cellD hI6'.out.1 hd'.out hn'.out).2.2.1
      have ez : w6.frozen? ⟨P.bb, ix * 3 + 2, none⟩ = false := (RfB.cellD hI6'.out.1 hd'.out hn'.out).2.2.2 _
      obtain ⟨er, her⟩ : ∃ er, (A.B d n).er = er := ⟨_, rfl⟩
      have hIW : RfI w P O (w6.setCell ⟨P.bb, ix * 3 + 2, none⟩ (.int .i64 ((er : Int) + 1))) (({ A.tickE with off := true, cuts := A.cuts + 1 } : Nd).wear d n) O := by
        rw [← hix'.out, ← her]; exact hI6'.out.er hd'.out hn'.out
      rw [her] at e2 herb
      obtain ⟨wW, hwW⟩ : ∃ wW, w6.setCell ⟨P.bb, ix * 3 + 2, none⟩ (.int .i64 ((er : Int) + 1)) = wW := ⟨_, rfl⟩
      rw [hwW] at hIW
      have hwW' := Lib.hid hwW
      have hS3 := Lib.hid (struck68 hIW.1 hL (A.ops : Int) 3 d n)
      have hS6 := Lib.hid (fun W (hk : Keeps Nil wW W) => struck68 (RfB.nil hIW.1 hk) hL (A.ops : Int) 6 d n)
      rw [show (({ A.tickE with off := true, cuts := A.cuts + 1 } : Nd).wear d n).struck (A.ops : Int) 3 d n = A.struck A.ops 3 d n from rfl] at hS3
      rw [show (({ A.tickE with off := true, cuts := A.cuts + 1 } : Nd).wear d n).struck (A.ops : Int) 6 d n = A.struck A.ops 6 d n from rfl] at hS6
      obtain ⟨s3, hs3⟩ : ∃ s, A.struck A.ops 3 d n = s := ⟨_, rfl⟩
      obtain ⟨s6, hs6⟩ : ∃ s, A.struck A.ops 6 d n = s := ⟨_, rfl⟩
      have hbad := Lib.hid (show A.badP A.ops d n 3 = (s3 || s6) by unfold Nd.badP; rw [hs3, hs6])
      rw [hs3] at hS3
      rw [hs6] at hS6
      have hIW' := Lib.hid hIW
      clear hIW hwW hI6' hs3 hs6 her
      go_upto_region 19 with (fail)
      rw [hwW'.out]
      clear e2 ez hwW'
      go_wp2_with fail
      refine (hS3.out).mono ?_
      rintro e wB ⟨rfl, kB⟩
      have hS6b := Lib.hid (hS6.out wB kB)
      have hIB := Lib.hid (hIW'.out.nil kB)
      clear kB hS3 hS6 hIW'
      cases s3 with
      | true =>
        have hb2 := Lib.hid (show A.badP A.ops d n 3 = true by rw [hbad.out]; rfl)
        clear hbad hS6b
        obtain ⟨q, rfl⟩ := Int.eq_ofNat_of_zero_le hpt.1
        have g2 := RfB.cell hIB.out.1 2
        have g3 := RfB.cell hIB.out.1 3
        simp only [rfCells, List.getElem?_toArray, List.getElem?_cons_zero, List.getElem?_cons_succ] at g2 g3
        rw [show (({ A.tickE with off := true, cuts := A.cuts + 1 } : Nd).wear d n).S.pages = A.S.pages from rfl] at g2
        rw [show (({ A.tickE with off := true, cuts := A.cuts + 1 } : Nd).wear d n).S.bytes = A.S.bytes from rfl] at g3
        have v1 : wB.cell? ⟨P.bb, ix * 3 + 1, none⟩ = some (.int .i64 ((({ A.tickE with off := true, cuts := A.cuts + 1 } : Nd).wear d n).B d n).next) := by rw [← hix'.out]; exact (RfB.cellD hIB.out.1 hd'.out hn'.out).2.1
        have vz : wB.frozen? ⟨P.bb, ix * 3 + 1, none⟩ = false := (RfB.cellD hIB.out.1 hd'.out hn'.out).2.2.2 _
        have hr3 := Lib.hid (hr2.out _ (erase_bad_c hct'.out hdd'.out hb2.out))
        clear hr2 hb2
        by_cases hqp : q < A.S.pages
        · have hq1 : (q : Int) < (A.S.pages : Int) := by omega
          have hq2 : decide (q < A.S.pages) = true := by simpa using hqp
          go_wp2_with fail
          go_loopw [15] (fun i wr => i = .int .i64 0 ∧ wr = wB) (fun _ _ => 0)
          case atStart => exact ⟨rfl, rfl⟩
          case round =>
            obtain ⟨rfl, rfl⟩ := hrel
            go_wp2_with fail
            all_goals
              go_ret
              rw [hr3.out]
              refine ⟨rfl, O, ?_⟩
              rw [← hix'.out]
              exact hIB.out.next hd'.out hn'.out (-1)
        · have hq1 : (A.S.pages : Int) ≤ (q : Int) := by omega
          have hq2 : decide (q < A.S.pages) = false := by simpa using hqp
          go_wp2_with fail
          go_loopw [15] (fun i wr => i = .int .i64 0 ∧ wr = wB) (fun _ _ => 0)
          case atStart => exact ⟨rfl, rfl⟩
          case round =>
            obtain ⟨rfl, rfl⟩ := hrel
            go_wp2_with fail
            all_goals
              go_ret
              rw [hr3.out]
              refine ⟨rfl, O, ?_⟩
              rw [← hix'.out]
              exact hIB.out.next hd'.out hn'.out (-1)
      | false =>
        go_wp2_with fail
        refine (hS6b.out).mono ?_
        rintro e wC ⟨rfl, kC⟩
        have hIC := Lib.hid (hIB.out.nil kC)
        clear kC hS6b hIB
        cases s6 with
        | true =>
          have hb2 := Lib.hid (show A.badP A.ops d n 3 = true by rw [hbad.out]; rfl)
          clear hbad
          obtain ⟨q, rfl⟩ := Int.eq_ofNat_of_zero_le hpt.1
          have g2 := RfB.cell hIC.out.1 2
          have g3 := RfB.cell hIC.out.1 3
          simp only [rfCells, List.getElem?_toArray, List.getElem?_cons_zero, List.getElem?_cons_succ] at g2 g3
          rw [show (({ A.tickE with off := true, cuts := A.cuts + 1 } : Nd).wear d n).S.pages = A.S.pages from rfl] at g2
          rw [show (({ A.tickE with off := true, cuts := A.cuts + 1 } : Nd).wear d n).S.bytes = A.S.bytes from rfl] at g3
          have v1 : wC.cell? ⟨P.bb, ix * 3 + 1, none⟩ = some (.int .i64 ((({ A.tickE with off := true, cuts := A.cuts + 1 } : Nd).wear d n).B d n).next) := by rw [← hix'.out]; exact (RfB.cellD hIC.out.1 hd'.out hn'.out).2.1
          have vz : wC.frozen? ⟨P.bb, ix * 3 + 1, none⟩ = false := (RfB.cellD hIC.out.1 hd'.out hn'.out).2.2.2 _
          have hr3 := Lib.hid (hr2.out _ (erase_bad_c hct'.out hdd'.out hb2.out))
          clear hr2 hb2
          by_cases hqp : q < A.S.pages
          · have hq1 : (q : Int) < (A.S.pages : Int) := by omega
            have hq2 : decide (q < A.S.pages) = true := by simpa using hqp
            go_wp2_with fail
            go_loopw [15] (fun i wr => i = .int .i64 0 ∧ wr = wC) (fun _ _ => 0)
            case atStart => exact ⟨rfl, rfl⟩
            case round =>
              obtain ⟨rfl, rfl⟩ := hrel
              go_wp2_with fail
              all_goals
                go_ret
                rw [hr3.out]
                refine ⟨rfl, O, ?_⟩
                rw [← hix'.out]
                exact hIC.out.next hd'.out hn'.out (-1)
          · have hq1 : (A.S.pages : Int) ≤ (q : Int) := by omega
            have hq2 : decide (q < A.S.pages) = false := by simpa using hqp
            go_wp2_with fail
            go_loopw [15] (fun i wr => i = .int .i64 0 ∧ wr = wC) (fun _ _ => 0)
            case atStart => exact ⟨rfl, rfl⟩
            case round =>
              obtain ⟨rfl, rfl⟩ := hrel
              go_wp2_with fail
              all_goals
                go_ret
                rw [hr3.out]
                refine ⟨rfl, O, ?_⟩
                rw [← hix'.out]
                exact hIC.out.next hd'.out hn'.out (-1)
        | false =>
          have hb2 := Lib.hid (show A.badP A.ops d n 3 = false by rw [hbad.out]; rfl)
          clear hbad
          obtain ⟨q, rfl⟩ := Int.eq_ofNat_of_zero_le hpt.1
          have g2 := RfB.cell hIC.out.1 2
          have g3 := RfB.cell hIC.out.1 3
          simp only [rfCells, List.getElem?_toArray, List.getElem?_cons_zero, List.getElem?_cons_succ] at g2 g3
          rw [show (({ A.tickE with off := true, cuts := A.cuts + 1 } : Nd).wear d n).S.pages = A.S.pages from rfl] at g2
          rw [show (({ A.tickE with off := true, cuts := A.cuts + 1 } : Nd).wear d n).S.bytes = A.S.bytes from rfl] at g3
          by_cases hqp : q < A.S.pages
          · have hq1 : (q : Int) < (A.S.pages : Int) := by omega
            have hq2 : decide (q < A.S.pages) = true := by simpa using hqp
            have hst := Lib.hid (show ∃ O', RfI w P O wC ((({ A.tickE with off := true, cuts := A.cuts + 1 } : Nd).wear d n).eraseCut d n 0) O' from ⟨_, by rw [eraseCut_zero]; exact hIC.out⟩)
            go_wp2_with fail
            clear hIC g2 g3
            go_loopw [15] (fun i wr => ∃ j : Nat, j ≤ q ∧ i = .int .i64 j ∧ Hid (∃ O', RfI w P O wr ((({ A.tickE with off := true, cuts := A.cuts + 1 } : Nd).wear d n).eraseCut d n j) O')) (fun i _ => q - (intOf i).toNat)
            case atStart => exact ⟨0, Nat.zero_le _, rfl, hst⟩
            case round =>
              clear hst
              obtain ⟨j, hj, rfl, hrel⟩ := hrel
              obtain ⟨O2, hI2⟩ := hrel.out
              have g3 := RfB.cell hI2.1 3
              simp only [rfCells, List.getElem?_toArray, List.getElem?_cons_zero, List.getElem?_cons_succ] at g3
              rw [show ((({ A.tickE with off := true, cuts := A.cuts + 1 } : Nd).wear d n).eraseCut d n j).S.bytes = A.S.bytes from rfl] at g3
              have u0 : wr.cell? ⟨P.bb, ix * 3, none⟩ = some (.slice (some ⟨P.pb ix, 0, none⟩) A.S.pages (P.pc ix)) := by rw [← hix'.out]; exact (RfB.cellD hI2.1 hd'.out hn'.out).1
              by_cases hjb : j < q
              · obtain ⟨hne1, hne2, _⟩ := hI2.pbne hd'.out hn'.out
                have hBk := Lib.hid (blank42 wr.drew A.S.bytes (by omega))
                obtain ⟨xo, co, p0, pz, _, _⟩ := hI2.pgs (p := j) hd'.out hn'.out (show j < A.S.pages by omega)
                have p0 : wr.cell? ⟨P.pb ix, j, none⟩ = some (.slice (some ⟨xo, 0, none⟩) A.S.bytes co) := by rw [← hix'.out]; exact p0
                have pz : wr.frozen? ⟨P.pb ix, j, none⟩ = false := by rw [← hix'.out]; exact pz
                have hne1 : P.pb ix ≠ P.rb := by rw [← hix'.out]; exact hne1
                have hne2 : P.pb ix ≠ P.bb := by rw [← hix'.out]; exact hne2
                have hj64 : j < 64 := by omega
                have hjp : j < A.S.pages := by omega
                have hby1 := hg'.out.ok.S.n1
                have hI2' := Lib.hid hI2
                have hS := Lib.hid (show ∀ W, Keeps (· = P.pb ix) wr W → W.cell? ⟨P.bb, ix * 3, none⟩ = some (.slice (some ⟨P.pb ix, 0, none⟩) A.S.pages (P.pc ix)) ∧ W.cell? ⟨P.rb, 3, none⟩ = some (.int .i64 (A.S.bytes : Nat)) from fun W hW => ⟨hW.cell u0 (fun e => hne2 e.symm), hW.cell g3 (fun e => hne1 e.symm)⟩)
                clear hI2 hrel u0 g3 hne1 hne2
                go_upto_region 26 with (fail)
                refine wp_region_held_drew (S := fun W => W.cell? ⟨P.bb, ix * 3, none⟩ = some (.slice (some ⟨P.pb ix, 0, none⟩) A.S.pages (P.pc ix)) ∧ W.cell? ⟨P.rb, 3, none⟩ = some (.int .i64 (A.S.bytes : Nat))) (by kernel_rfl) ?q2a (fun hHeld => ?q2b)
                case q2a => (try dsimp only); first | exact hS.out _ (Keeps.refl (· = P.pb ix) wr).drew | exact hS.out _ k9.out | exact hS.out _ (k9.out.setCell (p := ⟨P.pb ix, j, none⟩) (.inl rfl) _)
                case q2b =>
                  refine wpAnyH_take (i := 0) (oi := _) (v := ?q2_1v) rfl (by kernel_rfl) (by kernel_rfl) (by kernel_rfl) (fun _ _ _ h => h) (Or.inl ⟨by rfl, ?q2_1y⟩) (by assumption) ?q2_1r
                  case q2_1y => (intro w0 hSw; (try dsimp only at hSw); go_simp; try (with_reducible rfl))
                  case q2_1r =>
                    simp only [Act.put, List.getElem_toArray, List.getElem_cons_zero, List.setIfInBounds_toArray, List.set_cons_zero, List.set_cons_succ]
                    refine wpAnyH_take (i := 1) (oi := _) (v := ?q2_2v) rfl (by kernel_rfl) (by kernel_rfl) (by kernel_rfl) (fun _ _ _ h => h) (Or.inl ⟨by rfl, ?q2_2y⟩) (by assumption) ?q2_2r
                    case q2_2y => (intro w0 hSw; (try dsimp only at hSw); go_simp; try (with_reducible rfl))
                    case q2_2r =>
                      simp only [Act.put, List.getElem_toArray, List.getElem_cons_succ, List.getElem_cons_zero, List.setIfInBounds_toArray, List.set_cons_zero, List.set_cons_succ]
                      refine wpAnyH_take (i := 2) (oi := _) (v := ?q2_3v) rfl (by kernel_rfl) (by kernel_rfl) (by kernel_rfl) (fun _ _ _ h => h) (Or.inl ⟨by rfl, ?q2_3y⟩) (by assumption) ?q2_3r
                      case q2_3y => (intro w0 hSw; (try dsimp only at hSw); go_simp; try (with_reducible rfl))
                      case q2_3r =>
                        simp only [Act.put, List.getElem_toArray, List.getElem_cons_succ, List.getElem_cons_zero, List.setIfInBounds_toArray, List.set_cons_zero, List.set_cons_succ]
                        refine wpAnyH_take (i := 3) (oi := _) (v := ?q2_4v) rfl (by kernel_rfl) (by kernel_rfl) (by kernel_rfl) (fun _ _ _ h => h) (Or.inl ⟨by rfl, ?q2_4y⟩) (by assumption) ?q2_4r
                        case q2_4y => (intro w0 hSw; (try dsimp only at hSw); go_simp; try (with_reducible rfl))
                        case q2_4r =>
                          simp only [Act.put, List.getElem_toArray, List.getElem_cons_succ, List.getElem_cons_zero, List.setIfInBounds_toArray, List.set_cons_zero, List.set_cons_succ]
                          refine wpAnyH_take (i := 4) (oi := _) (v := ?q2_5v) rfl (by kernel_rfl) (by kernel_rfl) (by kernel_rfl) (fun _ _ _ h => h) (Or.inl ⟨by rfl, ?q2_5y⟩) (by assumption) ?q2_5r
                          case q2_5y => (intro w0 hSw; (try dsimp only at hSw); go_simp; try (with_reducible rfl))
                          case q2_5r =>
                            simp only [Act.put, List.getElem_toArray, List.getElem_cons_succ, List.getElem_cons_zero, List.setIfInBounds_toArray, List.set_cons_zero, List.set_cons_succ]
                            refine wpAnyH_take (i := 5) (oi := _) (v := ?q2_6v) rfl (by kernel_rfl) (by kernel_rfl) (by kernel_rfl) (fun _ _ _ h => h) (Or.inl ⟨by rfl, ?q2_6y⟩) (by assumption) ?q2_6r
                            case q2_6y => (intro w0 hSw; (try dsimp only at hSw); go_simp; try (with_reducible rfl))
                            case q2_6r =>
                              simp only [Act.put, List.getElem_toArray, List.getElem_cons_succ, List.getElem_cons_zero, List.setIfInBounds_toArray, List.set_cons_zero, List.set_cons_succ]
                              refine wpAnyH_take (i := 6) (oi := _) (v := ?q2_7v) rfl (by kernel_rfl) (by kernel_rfl) (by kernel_rfl) (fun _ _ _ h => h) (Or.inl ⟨by rfl, ?q2_7y⟩) (by assumption) ?q2_7r
                              case q2_7y => (intro w0 hSw; (try dsimp only at hSw); go_simp; try (with_reducible rfl))
                              case q2_7r =>
                                simp only [Act.put, List.getElem_toArray, List.getElem_cons_succ, List.getElem_cons_zero, List.setIfInBounds_toArray, List.set_cons_zero, List.set_cons_succ]
                                refine wpAnyH_take (i := 7) (oi := _) (v := ?q2_8v) rfl (by kernel_rfl) (by kernel_rfl) (by kernel_rfl) (fun _ _ _ h => h) (Or.inl ⟨by rfl, ?q2_8y⟩) (by assumption) ?q2_8r
                                case q2_8y => (intro w0 hSw; (try dsimp only at hSw); go_simp; try (with_reducible rfl))
                                case q2_8r =>
                                  simp only [Act.put, List.getElem_toArray, List.getElem_cons_succ, List.getElem_cons_zero, List.setIfInBounds_toArray, List.set_cons_zero, List.set_cons_succ]
                                  refine wpAnyH_take (i := 8) (oi := _) (v := ?q2_9v) rfl (by kernel_rfl) (by kernel_rfl) (by kernel_rfl) (fun _ _ _ h => h) (Or.inl ⟨by rfl, ?q2_9y⟩) (by assumption) ?q2_9r
                                  case q2_9y => (intro w0 hSw; (try dsimp only at hSw); go_simp; try (with_reducible rfl))
                                  case q2_9r =>
                                    simp only [Act.put, List.getElem_toArray, List.getElem_cons_succ, List.getElem_cons_zero, List.setIfInBounds_toArray, List.set_cons_zero, List.set_cons_succ]
                                    refine wpAnyH_take (i := 9) (oi := _) (v := ?q2_10v) rfl (by kernel_rfl) (by kernel_rfl) (by kernel_rfl) (fun _ _ _ h => h) (Or.inl ⟨by rfl, ?q2_10y⟩) (by assumption) ?q2_10r
                                    case q2_10y => (intro w0 hSw; (try dsimp only at hSw); go_simp; try (with_reducible rfl))
                                    case q2_10r =>
                                      simp only [Act.put, List.getElem_toArray, List.getElem_cons_succ, List.getElem_cons_zero, List.setIfInBounds_toArray, List.set_cons_zero, List.set_cons_succ]
                                      refine wpAnyH_ready (rs := [10]) (by kernel_rfl) (by simp) ?q2_11g
                                      case q2_11g =>
                                        refine AllReadyH.cons (o := _) rfl (fun K hK => ?q2_11k) AllReadyH.nil
                                        case q2_11k =>
                                          go_simp
                                          (refine (hBk.out).mono ?_; rintro e w9 ⟨a9, c9, rfl, hr9, k9, hn9⟩; have k9n := Lib.hid ((Keeps.refl Nil wr).drew.trans k9); have k9 := Lib.hid ((Keeps.refl (· = P.pb ix) wr).drew.trans (k9.mono (fun _ h => h.elim))); have hr9' := Lib.hid hr9; have hn9' := Lib.hid hn9; have p9 := k9n.out.cell p0 (fun h => h); have z9 := k9n.out.frozen pz (lt_of_cell p0) (fun h => h); clear hr9 hn9)
                                          refine hK.out _ _ ?q2_11s (fun hHeld => ?q2_11t)
                                          case q2_11s => (try dsimp only); first | exact hS.out _ (Keeps.refl (· = P.pb ix) wr).drew | exact hS.out _ k9.out | exact hS.out _ (k9.out.setCell (p := ⟨P.pb ix, j, none⟩) (.inl rfl) _)
                                          case q2_11t =>
                                            clear hK K
                                            try simp only [Act.put, List.getElem_toArray, List.getElem_cons_succ, List.getElem_cons_zero, List.setIfInBounds_toArray, List.set_cons_zero, List.set_cons_succ]
                                            refine wpAnyH_take (i := 11) (oi := _) (v := ?q2_12v) rfl (by kernel_rfl) (by kernel_rfl) (by kernel_rfl) (fun _ _ _ h => h) (Or.inl ⟨by rfl, ?q2_12y⟩) (by assumption) ?q2_12r
                                            case q2_12y => (intro w0 hSw; (try dsimp only at hSw); go_simp; try (with_reducible rfl))
                                            case q2_12r =>
                                              simp only [Act.put, List.getElem_toArray, List.getElem_cons_succ, List.getElem_cons_zero, List.setIfInBounds_toArray, List.set_cons_zero, List.set_cons_succ]
                                              refine wpAnyH_ready (rs := [12]) (by kernel_rfl) (by simp) ?q2_13g
                                              case q2_13g =>
                                                refine AllReadyH.cons (o := _) rfl (fun K hK => ?q2_13k) AllReadyH.nil
                                                case q2_13k =>
                                                  go_simp
                                                  refine hK.out _ _ ?q2_13s (fun hHeld => ?q2_13t)
                                                  case q2_13s => (try dsimp only); first | exact hS.out _ (Keeps.refl (· = P.pb ix) wr).drew | exact hS.out _ k9.out | exact hS.out _ (k9.out.setCell (p := ⟨P.pb ix, j, none⟩) (.inl rfl) _)
                                                  case q2_13t =>
                                                    clear hK K
                                                    try simp only [Act.put, List.getElem_toArray, List.getElem_cons_succ, List.getElem_cons_zero, List.setIfInBounds_toArray, List.set_cons_zero, List.set_cons_succ]
                                                    refine wpAnyH_done (by kernel_rfl) ?q2z _
                                                    case q2z =>
                                                      obtain ⟨x9, hx9, hx9n⟩ : ∃ x, a9 = some ⟨x, 0, none⟩ ∧ wr.heap.size ≤ x := by
                                                        rcases RowAt.form hr9'.out with ⟨_, h, _⟩ | ⟨g, _, h, _⟩
                                                        · rw [List.length_replicate] at h; omega
                                                        · exact ⟨g, h, hn9'.out g (by rw [h]; rfl)⟩
                                                      subst hx9
                                                      have hD := Lib.hid (show ∃ O', RfI w P O (w9.setCell ⟨P.pb ix, j, none⟩ (.slice (some ⟨x9, 0, none⟩) A.S.bytes c9)) ((({ A.tickE with off := true, cuts := A.cuts + 1 } : Nd).wear d n).eraseCut d n (j + 1)) O' from ⟨_, by rw [← hix'.out]; exact hI2'.out.blank k9n.out hd'.out hn'.out (show j < A.S.pages by omega) hr9'.out hx9n⟩)
                                                      clear hI2' hr9' hn9' k9 k9n p9 z9 hS hx9n
                                                      go_wp2_with fail
                                                      go_roundw
                                                      case rel => exact ⟨j + 1, by omega, by go_num, hD⟩
                                                      case measure => simp [intOf]; omega
              · have hjn : j = q := by omega
                have v1 : wr.cell? ⟨P.bb, ix * 3 + 1, none⟩ = some (.int .i64 (((({ A.tickE with off := true, cuts := A.cuts + 1 } : Nd).wear d n).eraseCut d n j).B d n).next) := by rw [← hix'.out]; exact (RfB.cellD hI2.1 hd'.out hn'.out).2.1
                have vz : wr.frozen? ⟨P.bb, ix * 3 + 1, none⟩ = false := (RfB.cellD hI2.1 hd'.out hn'.out).2.2.2 _
                have hI2' := Lib.hid hI2
                clear hI2 hrel
                go_wp2_with fail
                go_ret
                have hr3 := hr2.out _ (erase_ok_c hct'.out hdd'.out hb2.out)
                rw [show min (q : Int).toNat A.S.pages = q by rw [Int.toNat_natCast]; omega] at hr3
                rw [hr3]
                have hend := RfI.next (hI2'.out) hd'.out hn'.out (-1)
                rw [hjn] at hend
                refine ⟨rfl, O2, ?_⟩
                rw [← hix'.out]
                exact hend
          · have hq1 : (A.S.pages : Int) ≤ (q : Int) := by omega
            have hq2 : decide (q < A.S.pages) = false := by simpa using hqp
            have hst := Lib.hid (show ∃ O', RfI w P O wC ((({ A.tickE with off := true, cuts := A.cuts + 1 } : Nd).wear d n).eraseCut d n 0) O' from ⟨_, by rw [eraseCut_zero]; exact hIC.out⟩)
            go_wp2_with fail
            clear hIC g2 g3
            go_loopw [15] (fun i wr => ∃ j : Nat, j ≤ A.S.pages ∧ i = .int .i64 j ∧ Hid (∃ O', RfI w P O wr ((({ A.tickE with off := true, cuts := A.cuts + 1 } : Nd).wear d n).eraseCut d n j) O')) (fun i _ => A.S.pages - (intOf i).toNat)
            case atStart => exact ⟨0, Nat.zero_le _, rfl, hst⟩
            case round =>
              clear hst
              obtain ⟨j, hj, rfl, hrel⟩ := hrel
              obtain ⟨O2, hI2⟩ := hrel.out
              have g3 := RfB.cell hI2.1 3
              simp only [rfCells, List.getElem?_toArray, List.getElem?_cons_zero, List.getElem?_cons_succ] at g3
              rw [show ((({ A.tickE with off := true, cuts := A.cuts + 1 } : Nd).wear d n).eraseCut d n j).S.bytes = A.S.bytes from rfl] at g3
              have u0 : wr.cell? ⟨P.bb, ix * 3, none⟩ = some (.slice (some ⟨P.pb ix, 0, none⟩) A.S.pages (P.pc ix)) := by rw [← hix'.out]; exact (RfB.cellD hI2.1 hd'.out hn'.out).1
              by_cases hjb : j < A.S.pages
              · obtain ⟨hne1, hne2, _⟩ := hI2.pbne hd'.out hn'.out
                have hBk := Lib.hid (blank42 wr.drew A.S.bytes (by omega))
                obtain ⟨xo, co, p0, pz, _, _⟩ := hI2.pgs (p := j) hd'.out hn'.out (show j < A.S.pages by omega)
                have p0 : wr.cell? ⟨P.pb ix, j, none⟩ = some (.slice (some ⟨xo, 0, none⟩) A.S.bytes co) := by rw [← hix'.out]; exact p0
                have pz : wr.frozen? ⟨P.pb ix, j, none⟩ = false := by rw [← hix'.out]; exact pz
                have hne1 : P.pb ix ≠ P.rb := by rw [← hix'.out]; exact hne1
                have hne2 : P.pb ix ≠ P.bb := by rw [← hix'.out]; exact hne2
                have hj64 : j < 64 := by omega
                have hjp : j < A.S.pages := by omega
                have hby1 := hg'.out.ok.S.n1
                have hI2' := Lib.hid hI2
                have hS := Lib.hid (show ∀ W, Keeps (· = P.pb ix) wr W → W.cell? ⟨P.bb, ix * 3, none⟩ = some (.slice (some ⟨P.pb ix, 0, none⟩) A.S.pages (P.pc ix)) ∧ W.cell? ⟨P.rb, 3, none⟩ = some (.int .i64 (A.S.bytes : Nat)) from fun W hW => ⟨hW.cell u0 (fun e => hne2 e.symm), hW.cell g3 (fun e => hne1 e.symm)⟩)
                clear hI2 hrel u0 g3 hne1 hne2
                go_upto_region 26 with (fail)
                refine wp_region_held_drew (S := fun W => W.cell? ⟨P.bb, ix * 3, none⟩ = some (.slice (some ⟨P.pb ix, 0, none⟩) A.S.pages (P.pc ix)) ∧ W.cell? ⟨P.rb, 3, none⟩ = some (.int .i64 (A.S.bytes : Nat))) (by kernel_rfl) ?q3a (fun hHeld => ?q3b)
                case q3a => (try dsimp only); first | exact hS.out _ (Keeps.refl (· = P.pb ix) wr).drew | exact hS.out _ k9.out | exact hS.out _ (k9.out.setCell (p := ⟨P.pb ix, j, none⟩) (.inl rfl) _)
                case q3b =>
                  refine wpAnyH_take (i := 0) (oi := _) (v := ?q3_1v) rfl (by kernel_rfl) (by kernel_rfl) (by kernel_rfl) (fun _ _ _ h => h) (Or.inl ⟨by rfl, ?q3_1y⟩) (by assumption) ?q3_1r
                  case q3_1y => (intro w0 hSw; (try dsimp only at hSw); go_simp; try (with_reducible rfl))
                  case q3_1r =>
                    simp only [Act.put, List.getElem_toArray, List.getElem_cons_zero, List.setIfInBounds_toArray, List.set_cons_zero, List.set_cons_succ]
                    refine wpAnyH_take (i := 1) (oi := _) (v := ?q3_2v) rfl (by kernel_rfl) (by kernel_rfl) (by kernel_rfl) (fun _ _ _ h => h) (Or.inl ⟨by rfl, ?q3_2y⟩) (by assumption) ?q3_2r
                    case q3_2y => (intro w0 hSw; (try dsimp only at hSw); go_simp; try (with_reducible rfl))
                    case q3_2r =>
                      simp only [Act.put, List.getElem_toArray, List.getElem_cons_succ, List.getElem_cons_zero, List.setIfInBounds_toArray, List.set_cons_zero, List.set_cons_succ]
                      refine wpAnyH_take (i := 2) (oi := _) (v := ?q3_3v) rfl (by kernel_rfl) (by kernel_rfl) (by kernel_rfl) (fun _ _ _ h => h) (Or.inl ⟨by rfl, ?q3_3y⟩) (by assumption) ?q3_3r
                      case q3_3y => (intro w0 hSw; (try dsimp only at hSw); go_simp; try (with_reducible rfl))
                      case q3_3r =>
                        simp only [Act.put, List.getElem_toArray, List.getElem_cons_succ, List.getElem_cons_zero, List.setIfInBounds_toArray, List.set_cons_zero, List.set_cons_succ]
                        refine wpAnyH_take (i := 3) (oi := _) (v := ?q3_4v) rfl (by kernel_rfl) (by kernel_rfl) (by kernel_rfl) (fun _ _ _ h => h) (Or.inl ⟨by rfl, ?q3_4y⟩) (by assumption) ?q3_4r
                        case q3_4y => (intro w0 hSw; (try dsimp only at hSw); go_simp; try (with_reducible rfl))
                        case q3_4r =>
                          simp only [Act.put, List.getElem_toArray, List.getElem_cons_succ, List.getElem_cons_zero, List.setIfInBounds_toArray, List.set_cons_zero, List.set_cons_succ]
                          refine wpAnyH_take (i := 4) (oi := _) (v := ?q3_5v) rfl (by kernel_rfl) (by kernel_rfl) (by kernel_rfl) (fun _ _ _ h => h) (Or.inl ⟨by rfl, ?q3_5y⟩) (by assumption) ?q3_5r
                          case q3_5y => (intro w0 hSw; (try dsimp only at hSw); go_simp; try (with_reducible rfl))
                          case q3_5r =>
                            simp only [Act.put, List.getElem_toArray, List.getElem_cons_succ, List.getElem_cons_zero, List.setIfInBounds_toArray, List.set_cons_zero, List.set_cons_succ]
                            refine wpAnyH_take (i := 5) (oi := _) (v := ?q3_6v) rfl (by kernel_rfl) (by kernel_rfl) (by kernel_rfl) (fun _ _ _ h => h) (Or.inl ⟨by rfl, ?q3_6y⟩) (by assumption) ?q3_6r
                            case q3_6y => (intro w0 hSw; (try dsimp only at hSw); go_simp; try (with_reducible rfl))
                            case q3_6r =>
                              simp only [Act.put, List.getElem_toArray, List.getElem_cons_succ, List.getElem_cons_zero, List.setIfInBounds_toArray, List.set_cons_zero, List.set_cons_succ]
                              refine wpAnyH_take (i := 6) (oi := _) (v := ?q3_7v) rfl (by kernel_rfl) (by kernel_rfl) (by kernel_rfl) (fun _ _ _ h => h) (Or.inl ⟨by rfl, ?q3_7y⟩) (by assumption) ?q3_7r
                              case q3_7y => (intro w0 hSw; (try dsimp only at hSw); go_simp; try (with_reducible rfl))
                              case q3_7r =>
                                simp only [Act.put, List.getElem_toArray, List.getElem_cons_succ, List.getElem_cons_zero, List.setIfInBounds_toArray, List.set_cons_zero, List.set_cons_succ]
                                refine wpAnyH_take (i := 7) (oi := _) (v := ?q3_8v) rfl (by kernel_rfl) (by kernel_rfl) (by kernel_rfl) (fun _ _ _ h => h) (Or.inl ⟨by rfl, ?q3_8y⟩) (by assumption) ?q3_8r
                                case q3_8y => (intro w0 hSw; (try dsimp only at hSw); go_simp; try (with_reducible rfl))
                                case q3_8r =>
                                  simp only [Act.put, List.getElem_toArray, List.getElem_cons_succ, List.getElem_cons_zero, List.setIfInBounds_toArray, List.set_cons_zero, List.set_cons_succ]
                                  refine wpAnyH_take (i := 8) (oi := _) (v := ?q3_9v) rfl (by kernel_rfl) (by kernel_rfl) (by kernel_rfl) (fun _ _ _ h => h) (Or.inl ⟨by rfl, ?q3_9y⟩) (by assumption) ?q3_9r
                                  case q3_9y => (intro w0 hSw; (try dsimp only at hSw); go_simp; try (with_reducible rfl))
                                  case q3_9r =>
                                    simp only [Act.put, List.getElem_toArray, List.getElem_cons_succ, List.getElem_cons_zero, List.setIfInBounds_toArray, List.set_cons_zero, List.set_cons_succ]
                                    refine wpAnyH_take (i := 9) (oi := _) (v := ?q3_10v) rfl (by kernel_rfl) (by kernel_rfl) (by kernel_rfl) (fun _ _ _ h => h) (Or.inl ⟨by rfl, ?q3_10y⟩) (by assumption) ?q3_10r
                                    case q3_10y => (intro w0 hSw; (try dsimp only at hSw); go_simp; try (with_reducible rfl))
                                    case q3_10r =>
                                      simp only [Act.put, List.getElem_toArray, List.getElem_cons_succ, List.getElem_cons_zero, List.setIfInBounds_toArray, List.set_cons_zero, List.set_cons_succ]
                                      refine wpAnyH_ready (rs := [10]) (by kernel_rfl) (by simp) ?q3_11g
                                      case q3_11g =>
                                        refine AllReadyH.cons (o := _) rfl (fun K hK => ?q3_11k) AllReadyH.nil
                                        case q3_11k =>
                                          go_simp
                                          (refine (hBk.out).mono ?_; rintro e w9 ⟨a9, c9, rfl, hr9, k9, hn9⟩; have k9n := Lib.hid ((Keeps.refl Nil wr).drew.trans k9); have k9 := Lib.hid ((Keeps.refl (· = P.pb ix) wr).drew.trans (k9.mono (fun _ h => h.elim))); have hr9' := Lib.hid hr9; have hn9' := Lib.hid hn9; have p9 := k9n.out.cell p0 (fun h => h); have z9 := k9n.out.frozen pz (lt_of_cell p0) (fun h => h); clear hr9 hn9)
                                          refine hK.out _ _ ?q3_11s (fun hHeld => ?q3_11t)
                                          case q3_11s => (try dsimp only); first | exact hS.out _ (Keeps.refl (· = P.pb ix) wr).drew | exact hS.out _ k9.out | exact hS.out _ (k9.out.setCell (p := ⟨P.pb ix, j, none⟩) (.inl rfl) _)
                                          case q3_11t =>
                                            clear hK K
                                            try simp only [Act.put, List.getElem_toArray, List.getElem_cons_succ, List.getElem_cons_zero, List.setIfInBounds_toArray, List.set_cons_zero, List.set_cons_succ]
                                            refine wpAnyH_take (i := 11) (oi := _) (v := ?q3_12v) rfl (by kernel_rfl) (by kernel_rfl) (by kernel_rfl) (fun _ _ _ h => h) (Or.inl ⟨by rfl, ?q3_12y⟩) (by assumption) ?q3_12r
                                            case q3_12y => (intro w0 hSw; (try dsimp only at hSw); go_simp; try (with_reducible rfl))
                                            case q3_12r =>
                                              simp only [Act.put, List.getElem_toArray, List.getElem_cons_succ, List.getElem_cons_zero, List.setIfInBounds_toArray, List.set_cons_zero, List.set_cons_succ]
                                              refine wpAnyH_ready (rs := [12]) (by kernel_rfl) (by simp) ?q3_13g
                                              case q3_13g =>
                                                refine AllReadyH.cons (o := _) rfl (fun K hK => ?q3_13k) AllReadyH.nil
                                                case q3_13k =>
                                                  go_simp
                                                  refine hK.out _ _ ?q3_13s (fun hHeld => ?q3_13t)
                                                  case q3_13s => (try dsimp only); first | exact hS.out _ (Keeps.refl (· = P.pb ix) wr).drew | exact hS.out _ k9.out | exact hS.out _ (k9.out.setCell (p := ⟨P.pb ix, j, none⟩) (.inl rfl) _)
                                                  case q3_13t =>
                                                    clear hK K
                                                    try simp only [Act.put, List.getElem_toArray, List.getElem_cons_succ, List.getElem_cons_zero, List.setIfInBounds_toArray, List.set_cons_zero, List.set_cons_succ]
                                                    refine wpAnyH_done (by kernel_rfl) ?q3z _
                                                    case q3z =>
                                                      obtain ⟨x9, hx9, hx9n⟩ : ∃ x, a9 = some ⟨x, 0, none⟩ ∧ wr.heap.size ≤ x := by
                                                        rcases RowAt.form hr9'.out with ⟨_, h, _⟩ | ⟨g, _, h, _⟩
                                                        · rw [List.length_replicate] at h; omega
                                                        · exact ⟨g, h, hn9'.out g (by rw [h]; rfl)⟩
                                                      subst hx9
                                                      have hD := Lib.hid (show ∃ O', RfI w P O (w9.setCell ⟨P.pb ix, j, none⟩ (.slice (some ⟨x9, 0, none⟩) A.S.bytes c9)) ((({ A.tickE with off := true, cuts := A.cuts + 1 } : Nd).wear d n).eraseCut d n (j + 1)) O' from ⟨_, by rw [← hix'.out]; exact hI2'.out.blank k9n.out hd'.out hn'.out (show j < A.S.pages by omega) hr9'.out hx9n⟩)
                                                      clear hI2' hr9' hn9' k9 k9n p9 z9 hS hx9n
                                                      go_wp2_with fail
                                                      go_roundw
                                                      case rel => exact ⟨j + 1, by omega, by go_num, hD⟩
                                                      case measure => simp [intOf]; omega
              · have hjn : j = A.S.pages := by omega
                have v1 : wr.cell? ⟨P.bb, ix * 3 + 1, none⟩ = some (.int .i64 (((({ A.tickE with off := true, cuts := A.cuts + 1 } : Nd).wear d n).eraseCut d n j).B d n).next) := by rw [← hix'.out]; exact (RfB.cellD hI2.1 hd'.out hn'.out).2.1
                have vz : wr.frozen? ⟨P.bb, ix * 3 + 1, none⟩ = false := (RfB.cellD hI2.1 hd'.out hn'.out).2.2.2 _
                have hI2' := Lib.hid hI2
                clear hI2 hrel
                go_wp2_with fail
                go_ret
                have hr3 := hr2.out _ (erase_ok_c hct'.out hdd'.out hb2.out)
                rw [show min (q : Int).toNat A.S.pages = A.S.pages by rw [Int.toNat_natCast]; omega] at hr3
                rw [hr3]
                have hend := RfI.next (hI2'.out) hd'.out hn'.out (-1)
                rw [hjn] at hend
                refine ⟨rfl, O2, ?_⟩
                rw [← hix'.out]
                exact hend
end Go.Proofs.Ytglpacdenfoicaa
