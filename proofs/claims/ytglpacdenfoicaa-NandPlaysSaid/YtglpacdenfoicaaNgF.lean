/- the document's array: Program (printed by Nd/mkNgF.py, tools/genR.py) -/
import Derived.Test.YtglpacdenfoicaaNgE
namespace Go.Proofs.Ytglpacdenfoicaa
open Go.RowKit

theorem make22 (n : Nat) (hn : n ≤ 1000000) (w : World) : (Instr.makeSlice 22 (.int .i64 (n : Int)) (.int .i64 (n : Int))).run Try.prog w = .ok (.slice (some ⟨w.heap.size, 0, none⟩) n n) (w.alloc (.cells (Array.replicate n (.int .u8 0)) 5)) := by
  rw [show Array.replicate n (Value.int .u8 0) = (List.replicate n (.int .u8 0)).toArray from by simp]
  obtain ⟨i5, hi, hz0, hz1, hz2⟩ := info_parts Try.info5n
  exact run_make1 w 22 5 i5 (.int .u8 0) 1 Try.underlying22 hi hz0 hz1 hz2 rfl .i64 .i64 n (by omega) (by omega)
theorem numRow5_replicate {w : World} {g n : Nat} (h : w.heap[g]? = some (.cells (Array.replicate n (.int .u8 0)) 5 (0, 0))) (hn : n ≤ 100000) : NumRow .u8 w 5 (some ⟨g, 0, none⟩) n (List.replicate n 0) := by
  unfold NumRow
  rw [List.length_replicate]
  exact ⟨by simp, .inr ⟨g, n, _, rfl, Nat.zero_le _, h, Nat.le_refl _, by unfold maxLen; omega, by simp, by simp⟩⟩
theorem gi_set9 {l : List Int} {b j : Nat} {v : Int} (hb : b < l.length) : gi (l.set b v) j = if j = b then v else gi l j := by
  unfold gi
  simp only [List.getD_eq_getElem?_getD]
  by_cases h : j = b
  · subst h; rw [if_pos rfl]; simp [hb]
  · rw [if_neg h]; rw [List.getElem?_set_ne (by omega)]
theorem cutAt_get9 {p n k : Nat} {l : List Int} (hl : l.length = n) (hk : k < n) : gi (cutAt p n l) k = if k < p then gi l k else 255 := by
  unfold cutAt gi
  simp only [List.getD_eq_getElem?_getD]
  by_cases h : k < p
  · rw [if_pos h, List.getElem?_append_left (by rw [List.length_take]; omega), List.getElem?_take, if_pos h]
  · rw [if_neg h, List.getElem?_append_right (by rw [List.length_take]; omega), List.getElem?_replicate, if_pos (by rw [List.length_take]; omega)]
    rfl
theorem cutAt_zero (m : Nat) (l : List Int) : cutAt 0 m l = List.replicate m 255 := by simp [cutAt]
theorem cutAt_set {i m : Nat} {l : List Int} (hl : l.length = m) (hi : i < m) : (cutAt i m l).set i (gi l i) = cutAt (i + 1) m l := by
  apply List.ext_getElem?
  intro j
  have h1 : (cutAt i m l).length = m := cutAt_len' hl
  have h2 : (cutAt (i + 1) m l).length = m := cutAt_len' hl
  by_cases hj : j < m
  · have a1 : ((cutAt i m l).set i (gi l i))[j]? = some (gi ((cutAt i m l).set i (gi l i)) j) := by rw [gi_eq (l := (cutAt i m l).set i (gi l i)) (j := j) (by rw [List.length_set]; omega)]; exact List.getElem?_eq_getElem _
    have a2 : (cutAt (i + 1) m l)[j]? = some (gi (cutAt (i + 1) m l) j) := by rw [gi_eq (l := cutAt (i + 1) m l) (j := j) (by omega)]; exact List.getElem?_eq_getElem _
    rw [a1, a2, gi_set9 (by omega), cutAt_get9 hl hj, cutAt_get9 hl hj]
    congr 1
    by_cases e : j = i
    · subst e; rw [if_pos rfl, if_pos (by omega)]
    · rw [if_neg e]
      by_cases e2 : j < i
      · rw [if_pos e2, if_pos (by omega)]
      · rw [if_neg e2, if_neg (by omega)]
  · rw [List.getElem?_eq_none (by rw [List.length_set]; omega), List.getElem?_eq_none (by omega)]
theorem cutAt_all {q m : Nat} {l : List Int} (hl : l.length = m) (hq : m ≤ q) : cutAt q m l = l := by
  unfold cutAt
  rw [List.take_of_length_le (by omega), hl, Nat.sub_self]
  simp
theorem prog_bad_n {A : Nd} {d n p : Nat} {l : List Int} (hc : A.cut A.ops = none) (hd : A.dead d = false) (hb : A.badP A.ops d n 2 = true) : A.prog d n p l = (43, { A.tickP.progBad d n p with fails := A.fails + 1 }) :=
  doOp_bad hc hd (show Nd.progW A.ops d n p l A.tickP = (43, A.tickP.progBad d n p) by unfold Nd.progW; rw [show A.tickP.badP A.ops d n 2 = true from hb]; rfl)
theorem prog_ok_n {A : Nd} {d n p : Nat} {l : List Int} (hc : A.cut A.ops = none) (hd : A.dead d = false) (hb : A.badP A.ops d n 2 = false) : A.prog d n p l = (0, A.tickP.progOk d n p l) :=
  doOp_ok hc hd (show Nd.progW A.ops d n p l A.tickP = (0, A.tickP.progOk d n p l) by unfold Nd.progW; rw [show A.tickP.badP A.ops d n 2 = false from hb]; rfl)
theorem prog_bad_c {A : Nd} {d n p : Nat} {l : List Int} {q : Int} (hc : A.cut A.ops = some q) (hd : A.dead d = false) (hb : A.badP A.ops d n 2 = true) : A.prog d n p l = (40, (({ A.tickP with off := true, cuts := A.cuts + 1 } : Nd)).progBad d n p) := by
  refine (doOp_cut (A1 := A.tickP) hc hd).trans ?_
  unfold Nd.progP
  rw [show (({ A.tickP with off := true, cuts := A.cuts + 1 } : Nd)).badP A.ops d n 2 = true from hb]
  rfl
theorem prog_ok_c {A : Nd} {d n p : Nat} {l : List Int} {q : Int} (hc : A.cut A.ops = some q) (hd : A.dead d = false) (hb : A.badP A.ops d n 2 = false) : A.prog d n p l = (40, (({ A.tickP with off := true, cuts := A.cuts + 1 } : Nd)).progOk d n p (cutAt q.toNat A.S.bytes l)) := by
  refine (doOp_cut (A1 := A.tickP) hc hd).trans ?_
  unfold Nd.progP
  rw [show (({ A.tickP with off := true, cuts := A.cuts + 1 } : Nd)).badP A.ops d n 2 = false from hb]
  rfl
variable {w wr w' : World} {P : RfP} {O O' : Nat → Prop} {A A' : Nd}
/-- the page that is programmed -/
theorem RfI.prog {d n p x c : Nat} {l : List Int} {w1 : World} (h : RfI w P O w1 (A.setB d n ((A.B d n).at ((p : Int) + 1))) O') (hk : Keeps Nil w1 wr) (hd : d < A.S.dies) (hn : n < A.S.blocks) (hp : p < A.S.pages) (hx : NumRow .u8 wr 5 (some ⟨x, 0, none⟩) c l) (hx1 : w1.heap.size ≤ x) (hl : l.length = A.S.bytes) :
    RfI w P O (wr.setCell ⟨P.pb (d * A.S.blocks + n), p, none⟩ (.slice (some ⟨x, 0, none⟩) A.S.bytes c)) (A.progOk d n p l) (fun k => O' k ∨ k = x) := by
  have h1 := h.page (k' := setPg ((A.B d n).at ((p : Int) + 1)) p l) hk hd hn hp hx hx1 hl (by rw [Nd.setB_same]; rfl) (by rw [Nd.setB_same]; rfl) (fun q hq => by
    rw [Nd.setB_same]
    show pgBytes A.S.bytes (if q = p then some l else (A.B d n).pg q) = if q = p then l else pgBytes A.S.bytes ((A.B d n).pg q)
    by_cases e : q = p
    · rw [if_pos e, if_pos e]; rfl
    · rw [if_neg e, if_neg e])
  rw [Nd.setB_setB] at h1
  exact h1
set_option maxHeartbeats 16000000 in
set_option maxRecDepth 100000 in
theorem prog45 {d n p b : Nat} {xa : Option Addr} {xc : Nat} {l : List Int} (h : RfQ w P A O) (hg : A.Good b) (hb : b ≤ 1000000) (hoff : A.off = false) (hd : d < A.S.dies) (hn : n < A.S.blocks) (hp : p < A.S.pages) (hnx : (A.B d n).next = (p : Int)) (hx : NumsAt .u8 w xa l) (hxO : ∀ g, blk xa = some g → ¬ O g) (hl : l.length = A.S.bytes) :
    Calls Try.prog 45 #[.pointer (some ⟨P.rb, 0, none⟩), .int .i64 (d : Nat), .int .i64 (n : Nat), .int .i64 (p : Nat), .slice xa A.S.bytes xc] w (RfRes w P O (.int .i64 (A.prog d n p l).1) (A.prog d n p l).2) := by
  have hL : P.L.length ≤ 2000 := by
    have h1 := congrArg List.length (RfB.fls h)
    simp only [List.length_map] at h1
    have := hg.ok.len; omega
  have hIn := Lib.hid (in65 h d n)
  rw [show inAt A.S d n = true by unfold inAt; simp; omega] at hIn
  obtain ⟨db, hF⟩ := RfB.flat h hg.ok.S hd hn
  have c7 := RfB.cell h 7
  have c2 := RfB.cell h 2
  have c3 := RfB.cell h 3
  simp only [rfCells, List.getElem?_toArray, List.getElem?_cons_zero, List.getElem?_cons_succ] at c7 c2 c3
  rw [hoff] at c7
  have kN := (RfB.cellD h hd hn).2.1
  rw [hnx] at kN
  obtain ⟨m, w1, w2, lt, c1, c4⟩ := hF
  obtain ⟨ix, hix⟩ : ∃ ix, d * A.S.blocks + n = ix := ⟨_, rfl⟩
  obtain ⟨len, hlen⟩ : ∃ len, A.S.dies * A.S.blocks = len := ⟨_, rfl⟩
  obtain ⟨N, hN⟩ : ∃ N, A.S.blocks = N := ⟨_, rfl⟩
  rw [hix] at w2 lt kN
  rw [hlen] at lt c4
  rw [hN] at m c1
  have hI0 := Lib.hid (RfI.begin h)
  have hg' := Lib.hid hg
  have hd' := Lib.hid hd
  have hn' := Lib.hid hn
  have hp' := Lib.hid hp
  have hix' := Lib.hid hix
  have hnx' := Lib.hid hnx
  have hx' := Lib.hid (show NumsAt .u8 w xa l ∧ l.length = A.S.bytes ∧ ∀ g, blk xa = some g → ¬ O g from ⟨hx, hl, hxO⟩)
  obtain ⟨r, hr⟩ : ∃ r, A.prog d n p l = r := ⟨_, rfl⟩
  rw [hr]
  have hr' := Lib.hid hr
  have hops := hg.lt.ops
  have hprs := hg.lt.programs
  have hcts := hg.lt.cuts
  have hfls := hg.lt.fails
  have hpz : ¬ ((p : Int) < 0) := by omega
  have hpl : (p : Int) < (A.S.pages : Int) := by omega
  obtain ⟨p1, p2, p3⟩ := (show A.S.pages ≤ 64 ∧ A.S.bytes ≤ 4096 ∧ 1 ≤ A.S.bytes from ⟨hg.ok.S.p2, hg.ok.S.n2, hg.ok.S.n1⟩)
  clear h hg hd hn hix hlen hN hr hnx hx hxO hl
  go_enter Try.func45, Try.ntmps45
  go_wp2_with fail
  refine (hIn.out).mono ?_
  rintro e w3 ⟨rfl, hw3⟩
  rw [hw3]
  clear hw3 w3 hIn
  go_wp2_with fail
  go_quiet (fail)
  have kN := ((Keeps.refl Nil w).drewN nq).cell kN (fun h => h)
  clear c7 c1 c4 c2 c3 m w1 w2 lt
  have hI1 := Lib.hid (hI0.out.nil ((Keeps.refl Nil w).drewN nq))
  obtain ⟨wa, hwa⟩ : ∃ wa, w.drewN nq = wa := ⟨_, rfl⟩
  rw [hwa] at hI1 kN
  rw [hwa]
  clear hI0 hwa
  have hB := Lib.hid (begin66I hI1.out hops hb)
  clear hI1
  go_wp2_with fail
  refine (hB.out).mono ?_
  rintro e w3 ⟨rfl, hI3⟩
  have c10 := RfB.cell hI3.1 10
  have f10 := frozen_of_heap hI3.blk 10
  simp only [rfCells, List.getElem?_toArray, List.getElem?_cons_zero, List.getElem?_cons_succ] at c10
  have k4 : Keeps (· = P.rb) w3 (w3.setCell ⟨P.rb, 10, none⟩ (.int .i64 ((A.programs : Int) + 1))) := (Keeps.refl (· = P.rb) w3).setCell (.inl rfl) _
  have hI4 := hI3.cells (A' := A.tickP) k4 (by rw [heap_setCell_same hI3.blk]; rfl) rfl rfl rfl
  obtain ⟨w4, hw4⟩ : ∃ w4, w3.setCell ⟨P.rb, 10, none⟩ (.int .i64 ((A.programs : Int) + 1)) = w4 := ⟨_, rfl⟩
  rw [hw4] at hI4
  have hI4' := Lib.hid hI4
  have hw4' := Lib.hid hw4
  have hCt := Lib.hid (cut67 hI4.1 hL (A.ops : Int))
  have hSt := Lib.hid (struck68 hI4.1 hL (A.ops : Int) 4 d n)
  rw [show A.tickP.cut (A.ops : Int) = A.cut A.ops from rfl] at hCt
  rw [struck_die _ _ _ _ 0, show A.tickP.struck (A.ops : Int) 4 d 0 = A.dead d from rfl] at hSt
  clear hI3 hI4 hw4 hB k4 kN
  go_upto_region 11 with (fail)
  rw [hw4'.out]
  clear c10 f10 hw4' w3
  obtain ⟨ct, hct⟩ : ∃ ct, A.cut A.ops = ct := ⟨_, rfl⟩
  obtain ⟨dd, hdd⟩ : ∃ dd, A.dead d = dd := ⟨_, rfl⟩
  rw [hct] at hCt
  rw [hdd] at hSt
  have hr2 := Lib.hid (show ∀ x, A.prog d n p l = x → r = x from fun x hx => hr'.out.symm.trans hx)
  have hdd' := Lib.hid hdd
  have hct' := Lib.hid hct
  clear hct hdd hr'
  cases ct with
  | none =>
    rw [show cutV none = #[.int .i64 0, .bool false] from rfl] at hCt
    go_wp2_with fail
    refine (hCt.out).mono ?_
    rintro e w5 ⟨rfl, hw5⟩
    rw [hw5]
    clear hw5 w5 hCt
    go_wp2_with fail
    refine (hSt.out).mono ?_
    rintro e w5 ⟨rfl, k5⟩
    have hI5 := Lib.hid (hI4'.out.nil k5)
    clear k5 hSt hI4'
    cases dd with
    | true =>
      have hr3 := Lib.hid (hr2.out _ (doOp_die (A1 := A.tickP) hct'.out hdd'.out))
      go_wp2_with fail
      go_ret
      rw [hr3.out]
      exact ⟨rfl, _, hI5.out⟩
    | false =>
      have e1 : w5.cell? ⟨P.bb, ix * 3 + 1, none⟩ = some (.int .i64 (p : Nat)) := by rw [← hix'.out, ← hnx'.out]; exact (RfB.cellD hI5.out.1 hd'.out hn'.out).2.1
      have ez : w5.frozen? ⟨P.bb, ix * 3 + 1, none⟩ = false := (RfB.cellD hI5.out.1 hd'.out hn'.out).2.2.2 _
      have hIW : RfI w P O (w5.setCell ⟨P.bb, ix * 3 + 1, none⟩ (.int .i64 ((p : Int) + 1))) (A.tickP.setB d n ((A.tickP.B d n).at ((p : Int) + 1))) O := by
        rw [← hix'.out]; exact hI5.out.next hd'.out hn'.out ((p : Int) + 1)
      obtain ⟨wW, hwW⟩ : ∃ wW, w5.setCell ⟨P.bb, ix * 3 + 1, none⟩ (.int .i64 ((p : Int) + 1)) = wW := ⟨_, rfl⟩
      rw [hwW] at hIW
      have hwW' := Lib.hid hwW
      have hS2 := Lib.hid (struck68 hIW.1 hL (A.ops : Int) 2 d n)
      have hS6 := Lib.hid (fun W (hk : Keeps Nil wW W) => struck68 (RfB.nil hIW.1 hk) hL (A.ops : Int) 6 d n)
      rw [show (A.tickP.setB d n ((A.tickP.B d n).at ((p : Int) + 1))).struck (A.ops : Int) 2 d n = A.struck A.ops 2 d n from rfl] at hS2
      rw [show (A.tickP.setB d n ((A.tickP.B d n).at ((p : Int) + 1))).struck (A.ops : Int) 6 d n = A.struck A.ops 6 d n from rfl] at hS6
      obtain ⟨s2, hs2⟩ : ∃ s, A.struck A.ops 2 d n = s := ⟨_, rfl⟩
      obtain ⟨s6, hs6⟩ : ∃ s, A.struck A.ops 6 d n = s := ⟨_, rfl⟩
      have hbad := Lib.hid (show A.badP A.ops d n 2 = (s2 || s6) by unfold Nd.badP; rw [hs2, hs6])
      rw [hs2] at hS2
      rw [hs6] at hS6
      have hIW' := Lib.hid hIW
      clear hIW hwW hI5 hs2 hs6
      go_upto_region 21 with (fail)
      rw [hwW'.out]
      clear e1 ez hwW'
      go_wp2_with fail
      refine (hS2.out).mono ?_
      rintro e wB ⟨rfl, kB⟩
      have hS6b := Lib.hid (hS6.out wB kB)
      have hIB := Lib.hid (hIW'.out.nil kB)
      clear kB hS2 hS6 hIW'
      cases s2 with
      | true =>
        have hb2 := Lib.hid (show A.badP A.ops d n 2 = true by rw [hbad.out]; rfl)
        clear hbad hS6b
        have g3 := RfB.cell hIB.out.1 3
        simp only [rfCells, List.getElem?_toArray, List.getElem?_cons_zero, List.getElem?_cons_succ] at g3
        rw [show (A.tickP.setB d n ((A.tickP.B d n).at ((p : Int) + 1))).S.bytes = A.S.bytes from rfl] at g3
        have u0 : wB.cell? ⟨P.bb, ix * 3, none⟩ = some (.slice (some ⟨P.pb ix, 0, none⟩) A.S.pages (P.pc ix)) := by rw [← hix'.out]; exact (RfB.cellD hIB.out.1 hd'.out hn'.out).1
        obtain ⟨hne1, hne2, _⟩ := hIB.out.pbne hd'.out hn'.out
        have hne1 : P.pb ix ≠ P.rb := by rw [← hix'.out]; exact hne1
        have hne2 : P.pb ix ≠ P.bb := by rw [← hix'.out]; exact hne2
        obtain ⟨xo, co, p0, pz, _, _⟩ := hIB.out.pgs (p := p) hd'.out hn'.out hp'.out
        have p0 : wB.cell? ⟨P.pb ix, p, none⟩ = some (.slice (some ⟨xo, 0, none⟩) A.S.bytes co) := by rw [← hix'.out]; exact p0
        have pz : wB.frozen? ⟨P.pb ix, p, none⟩ = false := by rw [← hix'.out]; exact pz
        have hM22 := make22 A.S.bytes (by omega)
        have hS := Lib.hid (show ∀ W, Keeps (· = P.pb ix) wB W → W.cell? ⟨P.bb, ix * 3, none⟩ = some (.slice (some ⟨P.pb ix, 0, none⟩) A.S.pages (P.pc ix)) ∧ W.cell? ⟨P.rb, 3, none⟩ = some (.int .i64 (A.S.bytes : Nat)) from fun W hW => ⟨hW.cell u0 (fun e => hne2 e.symm), hW.cell g3 (fun e => hne1 e.symm)⟩)
        have ka := ((Keeps.refl Nil wB).alloc (.cells (Array.replicate A.S.bytes (.int .u8 0)) 5))
        have hza := heap_alloc_new wB (.cells (Array.replicate A.S.bytes (.int .u8 0)) 5)
        have p9 := ka.cell p0 (fun h => h)
        have z9 := ka.frozen pz (lt_of_cell p0) (fun h => h)
        have p9d := ka.drew.cell p0 (fun h => h)
        have z9d := ka.drew.frozen pz (lt_of_cell p0) (fun h => h)
        have hD := Lib.hid (show RfI w P O (((wB.alloc (.cells (Array.replicate A.S.bytes (.int .u8 0)) 5)).setCell ⟨P.pb ix, p, none⟩ (.slice (some ⟨wB.heap.size, 0, none⟩) A.S.bytes A.S.bytes)).drew) (A.tickP.progBad d n p) (fun k => O k ∨ k = wB.heap.size) from RfI.nil (by
          rw [← hix'.out]
          exact RfI.prog (A := A.tickP) hIB.out ka hd'.out hn'.out hp'.out (numRow5_replicate hza (by omega)) (Nat.le_refl _) (by rw [List.length_replicate])) (Keeps.refl Nil _).drew)
        have hr3 := Lib.hid (hr2.out _ (prog_bad_n hct'.out hdd'.out hb2.out))
        have g13 := RfB.cell hD.out.1 13
        have z13 := frozen_of_heap hD.out.blk 13
        simp only [rfCells, List.getElem?_toArray, List.getElem?_cons_zero, List.getElem?_cons_succ] at g13
        rw [show (A.tickP.progBad d n p).fails = A.fails from rfl] at g13
        have hF := Lib.hid (hD.out.cells (A' := { A.tickP.progBad d n p with fails := A.fails + 1 }) (w' := (((wB.alloc (.cells (Array.replicate A.S.bytes (.int .u8 0)) 5)).setCell ⟨P.pb ix, p, none⟩ (.slice (some ⟨wB.heap.size, 0, none⟩) A.S.bytes A.S.bytes)).drew).setCell ⟨P.rb, 13, none⟩ (.int .i64 ((A.fails : Int) + 1))) ((Keeps.refl (· = P.rb) (((wB.alloc (.cells (Array.replicate A.S.bytes (.int .u8 0)) 5)).setCell ⟨P.pb ix, p, none⟩ (.slice (some ⟨wB.heap.size, 0, none⟩) A.S.bytes A.S.bytes)).drew)).setCell (.inl rfl) _) (by rw [heap_setCell_same hD.out.blk]; rfl) rfl rfl rfl)
        clear hIB u0 g3 hne1 hne2 p0 pz ka hza
        go_upto_region 23 with (fail)
        refine wp_region_held_drew (S := fun W => W.cell? ⟨P.bb, ix * 3, none⟩ = some (.slice (some ⟨P.pb ix, 0, none⟩) A.S.pages (P.pc ix)) ∧ W.cell? ⟨P.rb, 3, none⟩ = some (.int .i64 (A.S.bytes : Nat))) (by kernel_rfl) ?q1a (fun hHeld => ?q1b)
        case q1a => (try dsimp only); first | exact hS.out _ (Keeps.refl (· = P.pb ix) wB).drew | exact hS.out _ ((Keeps.refl (· = P.pb ix) wB).drew.alloc _) | exact hS.out _ (((Keeps.refl (· = P.pb ix) wB).alloc _).drew) | exact hS.out _ (((Keeps.refl (· = P.pb ix) wB).drew.alloc _).setCell (p := ⟨P.pb ix, p, none⟩) (.inl rfl) _) | exact hS.out _ ((((Keeps.refl (· = P.pb ix) wB).alloc _).setCell (p := ⟨P.pb ix, p, none⟩) (.inl rfl) _).drew)
        case q1b =>
          refine wpAnyH_take (i := 0) (oi := _) (v := ?q1_1v) rfl (by kernel_rfl) (by kernel_rfl) (by kernel_rfl) (fun _ _ _ h => h) (Or.inl ⟨by rfl, ?q1_1y⟩) (by assumption) ?q1_1r
          case q1_1y => (intro w0 hSw; (try dsimp only at hSw); go_simp; try (with_reducible rfl))
          case q1_1r =>
            simp only [Act.put, List.getElem_toArray, List.getElem_cons_zero, List.setIfInBounds_toArray, List.set_cons_zero, List.set_cons_succ]
            refine wpAnyH_take (i := 1) (oi := _) (v := ?q1_2v) rfl (by kernel_rfl) (by kernel_rfl) (by kernel_rfl) (fun _ _ _ h => h) (Or.inl ⟨by rfl, ?q1_2y⟩) (by assumption) ?q1_2r
            case q1_2y => (intro w0 hSw; (try dsimp only at hSw); go_simp; try (with_reducible rfl))
            case q1_2r =>
              simp only [Act.put, List.getElem_toArray, List.getElem_cons_succ, List.getElem_cons_zero, List.setIfInBounds_toArray, List.set_cons_zero, List.set_cons_succ]
              refine wpAnyH_take (i := 2) (oi := _) (v := ?q1_3v) rfl (by kernel_rfl) (by kernel_rfl) (by kernel_rfl) (fun _ _ _ h => h) (Or.inl ⟨by rfl, ?q1_3y⟩) (by assumption) ?q1_3r
              case q1_3y => (intro w0 hSw; (try dsimp only at hSw); go_simp; try (with_reducible rfl))
              case q1_3r =>
                simp only [Act.put, List.getElem_toArray, List.getElem_cons_succ, List.getElem_cons_zero, List.setIfInBounds_toArray, List.set_cons_zero, List.set_cons_succ]
                refine wpAnyH_take (i := 3) (oi := _) (v := ?q1_4v) rfl (by kernel_rfl) (by kernel_rfl) (by kernel_rfl) (fun _ _ _ h => h) (Or.inl ⟨by rfl, ?q1_4y⟩) (by assumption) ?q1_4r
                case q1_4y => (intro w0 hSw; (try dsimp only at hSw); go_simp; try (with_reducible rfl))
                case q1_4r =>
                  simp only [Act.put, List.getElem_toArray, List.getElem_cons_succ, List.getElem_cons_zero, List.setIfInBounds_toArray, List.set_cons_zero, List.set_cons_succ]
                  refine wpAnyH_take (i := 4) (oi := _) (v := ?q1_5v) rfl (by kernel_rfl) (by kernel_rfl) (by kernel_rfl) (fun _ _ _ h => h) (Or.inl ⟨by rfl, ?q1_5y⟩) (by assumption) ?q1_5r
                  case q1_5y => (intro w0 hSw; (try dsimp only at hSw); go_simp; try (with_reducible rfl))
                  case q1_5r =>
                    simp only [Act.put, List.getElem_toArray, List.getElem_cons_succ, List.getElem_cons_zero, List.setIfInBounds_toArray, List.set_cons_zero, List.set_cons_succ]
                    refine wpAnyH_take (i := 5) (oi := _) (v := ?q1_6v) rfl (by kernel_rfl) (by kernel_rfl) (by kernel_rfl) (fun _ _ _ h => h) (Or.inl ⟨by rfl, ?q1_6y⟩) (by assumption) ?q1_6r
                    case q1_6y => (intro w0 hSw; (try dsimp only at hSw); go_simp; try (with_reducible rfl))
                    case q1_6r =>
                      simp only [Act.put, List.getElem_toArray, List.getElem_cons_succ, List.getElem_cons_zero, List.setIfInBounds_toArray, List.set_cons_zero, List.set_cons_succ]
                      refine wpAnyH_take (i := 6) (oi := _) (v := ?q1_7v) rfl (by kernel_rfl) (by kernel_rfl) (by kernel_rfl) (fun _ _ _ h => h) (Or.inl ⟨by rfl, ?q1_7y⟩) (by assumption) ?q1_7r
                      case q1_7y => (intro w0 hSw; (try dsimp only at hSw); go_simp; try (with_reducible rfl))
                      case q1_7r =>
                        simp only [Act.put, List.getElem_toArray, List.getElem_cons_succ, List.getElem_cons_zero, List.setIfInBounds_toArray, List.set_cons_zero, List.set_cons_succ]
                        refine wpAnyH_take (i := 7) (oi := _) (v := ?q1_8v) rfl (by kernel_rfl) (by kernel_rfl) (by kernel_rfl) (fun _ _ _ h => h) (Or.inl ⟨by rfl, ?q1_8y⟩) (by assumption) ?q1_8r
                        case q1_8y => (intro w0 hSw; (try dsimp only at hSw); go_simp; try (with_reducible rfl))
                        case q1_8r =>
                          simp only [Act.put, List.getElem_toArray, List.getElem_cons_succ, List.getElem_cons_zero, List.setIfInBounds_toArray, List.set_cons_zero, List.set_cons_succ]
                          refine wpAnyH_take (i := 8) (oi := _) (v := ?q1_9v) rfl (by kernel_rfl) (by kernel_rfl) (by kernel_rfl) (fun _ _ _ h => h) (Or.inl ⟨by rfl, ?q1_9y⟩) (by assumption) ?q1_9r
                          case q1_9y => (intro w0 hSw; (try dsimp only at hSw); go_simp; try (with_reducible rfl))
                          case q1_9r =>
                            simp only [Act.put, List.getElem_toArray, List.getElem_cons_succ, List.getElem_cons_zero, List.setIfInBounds_toArray, List.set_cons_zero, List.set_cons_succ]
                            refine wpAnyH_take (i := 9) (oi := _) (v := ?q1_10v) rfl (by kernel_rfl) (by kernel_rfl) (by kernel_rfl) (fun _ _ _ h => h) (Or.inl ⟨by rfl, ?q1_10y⟩) (by assumption) ?q1_10r
                            case q1_10y => (intro w0 hSw; (try dsimp only at hSw); go_simp; try (with_reducible rfl))
                            case q1_10r =>
                              simp only [Act.put, List.getElem_toArray, List.getElem_cons_succ, List.getElem_cons_zero, List.setIfInBounds_toArray, List.set_cons_zero, List.set_cons_succ]
                              refine wpAnyH_ready (rs := [10]) (by kernel_rfl) (by simp) ?q1_11g
                              case q1_11g =>
                                refine AllReadyH.cons (o := _) rfl (fun K hK => ?q1_11k) AllReadyH.nil
                                case q1_11k =>
                                  go_simp
                                  refine hK.out _ _ ?q1_11s (fun hHeld => ?q1_11t)
                                  case q1_11s => (try dsimp only); first | exact hS.out _ (Keeps.refl (· = P.pb ix) wB).drew | exact hS.out _ ((Keeps.refl (· = P.pb ix) wB).drew.alloc _) | exact hS.out _ (((Keeps.refl (· = P.pb ix) wB).alloc _).drew) | exact hS.out _ (((Keeps.refl (· = P.pb ix) wB).drew.alloc _).setCell (p := ⟨P.pb ix, p, none⟩) (.inl rfl) _) | exact hS.out _ ((((Keeps.refl (· = P.pb ix) wB).alloc _).setCell (p := ⟨P.pb ix, p, none⟩) (.inl rfl) _).drew)
                                  case q1_11t =>
                                    clear hK K
                                    try simp only [Act.put, List.getElem_toArray, List.getElem_cons_succ, List.getElem_cons_zero, List.setIfInBounds_toArray, List.set_cons_zero, List.set_cons_succ]
                                    refine wpAnyH_take (i := 11) (oi := _) (v := ?q1_12v) rfl (by kernel_rfl) (by kernel_rfl) (by kernel_rfl) (fun _ _ _ h => h) (Or.inl ⟨by rfl, ?q1_12y⟩) (by assumption) ?q1_12r
                                    case q1_12y => (intro w0 hSw; (try dsimp only at hSw); go_simp; try (with_reducible rfl))
                                    case q1_12r =>
                                      simp only [Act.put, List.getElem_toArray, List.getElem_cons_succ, List.getElem_cons_zero, List.setIfInBounds_toArray, List.set_cons_zero, List.set_cons_succ]
                                      refine wpAnyH_ready (rs := [12]) (by kernel_rfl) (by simp) ?q1_13g
                                      case q1_13g =>
                                        refine AllReadyH.cons (o := _) rfl (fun K hK => ?q1_13k) AllReadyH.nil
                                        case q1_13k =>
                                          go_simp
                                          refine hK.out _ _ ?q1_13s (fun hHeld => ?q1_13t)
                                          case q1_13s => (try dsimp only); first | exact hS.out _ (Keeps.refl (· = P.pb ix) wB).drew | exact hS.out _ ((Keeps.refl (· = P.pb ix) wB).drew.alloc _) | exact hS.out _ (((Keeps.refl (· = P.pb ix) wB).alloc _).drew) | exact hS.out _ (((Keeps.refl (· = P.pb ix) wB).drew.alloc _).setCell (p := ⟨P.pb ix, p, none⟩) (.inl rfl) _) | exact hS.out _ ((((Keeps.refl (· = P.pb ix) wB).alloc _).setCell (p := ⟨P.pb ix, p, none⟩) (.inl rfl) _).drew)
                                          case q1_13t =>
                                            clear hK K
                                            try simp only [Act.put, List.getElem_toArray, List.getElem_cons_succ, List.getElem_cons_zero, List.setIfInBounds_toArray, List.set_cons_zero, List.set_cons_succ]
                                            refine wpAnyH_done (by kernel_rfl) ?q1z _
                                            case q1z =>
                                              go_wp2_with fail
                                              go_ret
                                              rw [hr3.out]
                                              exact ⟨rfl, _, hF.out⟩
      | false =>
        go_wp2_with fail
        refine (hS6b.out).mono ?_
        rintro e wC ⟨rfl, kC⟩
        have hIC := Lib.hid (hIB.out.nil kC)
        clear kC hS6b hIB
        cases s6 with
        | true =>
          have hb2 := Lib.hid (show A.badP A.ops d n 2 = true by rw [hbad.out]; rfl)
          clear hbad
          have g3 := RfB.cell hIC.out.1 3
          simp only [rfCells, List.getElem?_toArray, List.getElem?_cons_zero, List.getElem?_cons_succ] at g3
          rw [show (A.tickP.setB d n ((A.tickP.B d n).at ((p : Int) + 1))).S.bytes = A.S.bytes from rfl] at g3
          have u0 : wC.cell? ⟨P.bb, ix * 3, none⟩ = some (.slice (some ⟨P.pb ix, 0, none⟩) A.S.pages (P.pc ix)) := by rw [← hix'.out]; exact (RfB.cellD hIC.out.1 hd'.out hn'.out).1
          obtain ⟨hne1, hne2, _⟩ := hIC.out.pbne hd'.out hn'.out
          have hne1 : P.pb ix ≠ P.rb := by rw [← hix'.out]; exact hne1
          have hne2 : P.pb ix ≠ P.bb := by rw [← hix'.out]; exact hne2
          obtain ⟨xo, co, p0, pz, _, _⟩ := hIC.out.pgs (p := p) hd'.out hn'.out hp'.out
          have p0 : wC.cell? ⟨P.pb ix, p, none⟩ = some (.slice (some ⟨xo, 0, none⟩) A.S.bytes co) := by rw [← hix'.out]; exact p0
          have pz : wC.frozen? ⟨P.pb ix, p, none⟩ = false := by rw [← hix'.out]; exact pz
          have hM22 := make22 A.S.bytes (by omega)
          have hS := Lib.hid (show ∀ W, Keeps (· = P.pb ix) wC W → W.cell? ⟨P.bb, ix * 3, none⟩ = some (.slice (some ⟨P.pb ix, 0, none⟩) A.S.pages (P.pc ix)) ∧ W.cell? ⟨P.rb, 3, none⟩ = some (.int .i64 (A.S.bytes : Nat)) from fun W hW => ⟨hW.cell u0 (fun e => hne2 e.symm), hW.cell g3 (fun e => hne1 e.symm)⟩)
          have ka := ((Keeps.refl Nil wC).alloc (.cells (Array.replicate A.S.bytes (.int .u8 0)) 5))
          have hza := heap_alloc_new wC (.cells (Array.replicate A.S.bytes (.int .u8 0)) 5)
          have p9 := ka.cell p0 (fun h => h)
          have z9 := ka.frozen pz (lt_of_cell p0) (fun h => h)
          have p9d := ka.drew.cell p0 (fun h => h)
          have z9d := ka.drew.frozen pz (lt_of_cell p0) (fun h => h)
          have hD := Lib.hid (show RfI w P O (((wC.alloc (.cells (Array.replicate A.S.bytes (.int .u8 0)) 5)).setCell ⟨P.pb ix, p, none⟩ (.slice (some ⟨wC.heap.size, 0, none⟩) A.S.bytes A.S.bytes)).drew) (A.tickP.progBad d n p) (fun k => O k ∨ k = wC.heap.size) from RfI.nil (by
            rw [← hix'.out]
            exact RfI.prog (A := A.tickP) hIC.out ka hd'.out hn'.out hp'.out (numRow5_replicate hza (by omega)) (Nat.le_refl _) (by rw [List.length_replicate])) (Keeps.refl Nil _).drew)
          have hr3 := Lib.hid (hr2.out _ (prog_bad_n hct'.out hdd'.out hb2.out))
          have g13 := RfB.cell hD.out.1 13
          have z13 := frozen_of_heap hD.out.blk 13
          simp only [rfCells, List.getElem?_toArray, List.getElem?_cons_zero, List.getElem?_cons_succ] at g13
          rw [show (A.tickP.progBad d n p).fails = A.fails from rfl] at g13
          have hF := Lib.hid (hD.out.cells (A' := { A.tickP.progBad d n p with fails := A.fails + 1 }) (w' := (((wC.alloc (.cells (Array.replicate A.S.bytes (.int .u8 0)) 5)).setCell ⟨P.pb ix, p, none⟩ (.slice (some ⟨wC.heap.size, 0, none⟩) A.S.bytes A.S.bytes)).drew).setCell ⟨P.rb, 13, none⟩ (.int .i64 ((A.fails : Int) + 1))) ((Keeps.refl (· = P.rb) (((wC.alloc (.cells (Array.replicate A.S.bytes (.int .u8 0)) 5)).setCell ⟨P.pb ix, p, none⟩ (.slice (some ⟨wC.heap.size, 0, none⟩) A.S.bytes A.S.bytes)).drew)).setCell (.inl rfl) _) (by rw [heap_setCell_same hD.out.blk]; rfl) rfl rfl rfl)
          clear hIC u0 g3 hne1 hne2 p0 pz ka hza
          go_upto_region 23 with (fail)
          refine wp_region_held_drew (S := fun W => W.cell? ⟨P.bb, ix * 3, none⟩ = some (.slice (some ⟨P.pb ix, 0, none⟩) A.S.pages (P.pc ix)) ∧ W.cell? ⟨P.rb, 3, none⟩ = some (.int .i64 (A.S.bytes : Nat))) (by kernel_rfl) ?q2a (fun hHeld => ?q2b)
          case q2a => (try dsimp only); first | exact hS.out _ (Keeps.refl (· = P.pb ix) wC).drew | exact hS.out _ ((Keeps.refl (· = P.pb ix) wC).drew.alloc _) | exact hS.out _ (((Keeps.refl (· = P.pb ix) wC).alloc _).drew) | exact hS.out _ (((Keeps.refl (· = P.pb ix) wC).drew.alloc _).setCell (p := ⟨P.pb ix, p, none⟩) (.inl rfl) _) | exact hS.out _ ((((Keeps.refl (· = P.pb ix) wC).alloc _).setCell (p := ⟨P.pb ix, p, none⟩) (.inl rfl) _).drew)
          case q2b =>
            refine wpAnyH_take (i := 0) (oi := _) (v := ?q2_1v) rfl (by kernel_rfl) (by kernel_rfl) (by kernel_rfl) (fun _ _ _ h => h) (Or.inl ⟨by rfl, ?q2_1y⟩) (by assumption) ?q2_1r
            case q2_1y => (intro w0 hSw; (try dsimp only at hSw); go_simp; try (with_reducible rfl))
            case q2_1r =>
              simp only [Act.put, List.getElem_toArray, List.getElem_cons_zero, List.setIfInBounds_toArray, List.set_cons_zero, List.set_cons_succ]
              refine wpAnyH_take (i := 1) (oi := _) (v := ?q2_2v) rfl (by kernel_rfl) (by kernel_rfl) (by kernel_rfl) (fun _ _ _ h => h) (Or.inl ⟨by rfl, ?q2_2y⟩) (by assumption) ?q2_2r
              case q2_2y => (intro w0 hSw; (try dsimp only at hSw); go_simp; try (with_reducible rfl))
              case q2_2r =>
                simp only [Act.put, List.getElem_toArray, List.getElem_cons_succ, List.getElem_cons_zero, List.setIfInBounds_toArray, List.set_cons_zero, List.set_cons_succ]
                refine wpAnyH_take (i := 2) (oi := _) (v := ?q2_3v) rfl (by kernel_rfl) (by kernel_rfl) (by kernel_rfl) (fun _ _ _ h => h) (Or.inl ⟨by rfl, ?q2_3y⟩) (by assumption) ?q2_3r
                case q2_3y => (intro w0 hSw; (try dsimp only at hSw); go_simp; try (with_reducible rfl))
                case q2_3r =>
                  simp only [Act.put, List.getElem_toArray, List.getElem_cons_succ, List.getElem_cons_zero, List.setIfInBounds_toArray, List.set_cons_zero, List.set_cons_succ]
                  refine wpAnyH_take (i := 3) (oi := _) (v := ?q2_4v) rfl (by kernel_rfl) (by kernel_rfl) (by kernel_rfl) (fun _ _ _ h => h) (Or.inl ⟨by rfl, ?q2_4y⟩) (by assumption) ?q2_4r
                  case q2_4y => (intro w0 hSw; (try dsimp only at hSw); go_simp; try (with_reducible rfl))
                  case q2_4r =>
                    simp only [Act.put, List.getElem_toArray, List.getElem_cons_succ, List.getElem_cons_zero, List.setIfInBounds_toArray, List.set_cons_zero, List.set_cons_succ]
                    refine wpAnyH_take (i := 4) (oi := _) (v := ?q2_5v) rfl (by kernel_rfl) (by kernel_rfl) (by kernel_rfl) (fun _ _ _ h => h) (Or.inl ⟨by rfl, ?q2_5y⟩) (by assumption) ?q2_5r
                    case q2_5y => (intro w0 hSw; (try dsimp only at hSw); go_simp; try (with_reducible rfl))
                    case q2_5r =>
                      simp only [Act.put, List.getElem_toArray, List.getElem_cons_succ, List.getElem_cons_zero, List.setIfInBounds_toArray, List.set_cons_zero, List.set_cons_succ]
                      refine wpAnyH_take (i := 5) (oi := _) (v := ?q2_6v) rfl (by kernel_rfl) (by kernel_rfl) (by kernel_rfl) (fun _ _ _ h => h) (Or.inl ⟨by rfl, ?q2_6y⟩) (by assumption) ?q2_6r
                      case q2_6y => (intro w0 hSw; (try dsimp only at hSw); go_simp; try (with_reducible rfl))
                      case q2_6r =>
                        simp only [Act.put, List.getElem_toArray, List.getElem_cons_succ, List.getElem_cons_zero, List.setIfInBounds_toArray, List.set_cons_zero, List.set_cons_succ]
                        refine wpAnyH_take (i := 6) (oi := _) (v := ?q2_7v) rfl (by kernel_rfl) (by kernel_rfl) (by kernel_rfl) (fun _ _ _ h => h) (Or.inl ⟨by rfl, ?q2_7y⟩) (by assumption) ?q2_7r
                        case q2_7y => (intro w0 hSw; (try dsimp only at hSw); go_simp; try (with_reducible rfl))
                        case q2_7r =>
                          simp only [Act.put, List.getElem_toArray, List.getElem_cons_succ, List.getElem_cons_zero, List.setIfInBounds_toArray, List.set_cons_zero, List.set_cons_succ]
                          refine wpAnyH_take (i := 7) (oi := _) (v := ?q2_8v) rfl (by kernel_rfl) (by kernel_rfl) (by kernel_rfl) (fun _ _ _ h => h) (Or.inl ⟨by rfl, ?q2_8y⟩) (by assumption) ?q2_8r
                          case q2_8y => (intro w0 hSw; (try dsimp only at hSw); go_simp; try (with_reducible rfl))
                          case q2_8r =>
                            simp only [Act.put, List.getElem_toArray, List.getElem_cons_succ, List.getElem_cons_zero, List.setIfInBounds_toArray, List.set_cons_zero, List.set_cons_succ]
                            refine wpAnyH_take (i := 8) (oi := _) (v := ?q2_9v) rfl (by kernel_rfl) (by kernel_rfl) (by kernel_rfl) (fun _ _ _ h => h) (Or.inl ⟨by rfl, ?q2_9y⟩) (by assumption) ?q2_9r
                            case q2_9y => (intro w0 hSw; (try dsimp only at hSw); go_simp; try (with_reducible rfl))
                            case q2_9r =>
                              simp only [Act.put, List.getElem_toArray, List.getElem_cons_succ, List.getElem_cons_zero, List.setIfInBounds_toArray, List.set_cons_zero, List.set_cons_succ]
                              refine wpAnyH_take (i := 9) (oi := _) (v := ?q2_10v) rfl (by kernel_rfl) (by kernel_rfl) (by kernel_rfl) (fun _ _ _ h => h) (Or.inl ⟨by rfl, ?q2_10y⟩) (by assumption) ?q2_10r
                              case q2_10y => (intro w0 hSw; (try dsimp only at hSw); go_simp; try (with_reducible rfl))
                              case q2_10r =>
                                simp only [Act.put, List.getElem_toArray, List.getElem_cons_succ, List.getElem_cons_zero, List.setIfInBounds_toArray, List.set_cons_zero, List.set_cons_succ]
                                refine wpAnyH_ready (rs := [10]) (by kernel_rfl) (by simp) ?q2_11g
                                case q2_11g =>
                                  refine AllReadyH.cons (o := _) rfl (fun K hK => ?q2_11k) AllReadyH.nil
                                  case q2_11k =>
                                    go_simp
                                    refine hK.out _ _ ?q2_11s (fun hHeld => ?q2_11t)
                                    case q2_11s => (try dsimp only); first | exact hS.out _ (Keeps.refl (· = P.pb ix) wC).drew | exact hS.out _ ((Keeps.refl (· = P.pb ix) wC).drew.alloc _) | exact hS.out _ (((Keeps.refl (· = P.pb ix) wC).alloc _).drew) | exact hS.out _ (((Keeps.refl (· = P.pb ix) wC).drew.alloc _).setCell (p := ⟨P.pb ix, p, none⟩) (.inl rfl) _) | exact hS.out _ ((((Keeps.refl (· = P.pb ix) wC).alloc _).setCell (p := ⟨P.pb ix, p, none⟩) (.inl rfl) _).drew)
                                    case q2_11t =>
                                      clear hK K
                                      try simp only [Act.put, List.getElem_toArray, List.getElem_cons_succ, List.getElem_cons_zero, List.setIfInBounds_toArray, List.set_cons_zero, List.set_cons_succ]
                                      refine wpAnyH_take (i := 11) (oi := _) (v := ?q2_12v) rfl (by kernel_rfl) (by kernel_rfl) (by kernel_rfl) (fun _ _ _ h => h) (Or.inl ⟨by rfl, ?q2_12y⟩) (by assumption) ?q2_12r
                                      case q2_12y => (intro w0 hSw; (try dsimp only at hSw); go_simp; try (with_reducible rfl))
                                      case q2_12r =>
                                        simp only [Act.put, List.getElem_toArray, List.getElem_cons_succ, List.getElem_cons_zero, List.setIfInBounds_toArray, List.set_cons_zero, List.set_cons_succ]
                                        refine wpAnyH_ready (rs := [12]) (by kernel_rfl) (by simp) ?q2_13g
                                        case q2_13g =>
                                          refine AllReadyH.cons (o := _) rfl (fun K hK => ?q2_13k) AllReadyH.nil
                                          case q2_13k =>
                                            go_simp
                                            refine hK.out _ _ ?q2_13s (fun hHeld => ?q2_13t)
                                            case q2_13s => (try dsimp only); first | exact hS.out _ (Keeps.refl (· = P.pb ix) wC).drew | exact hS.out _ ((Keeps.refl (· = P.pb ix) wC).drew.alloc _) | exact hS.out _ (((Keeps.refl (· = P.pb ix) wC).alloc _).drew) | exact hS.out _ (((Keeps.refl (· = P.pb ix) wC).drew.alloc _).setCell (p := ⟨P.pb ix, p, none⟩) (.inl rfl) _) | exact hS.out _ ((((Keeps.refl (· = P.pb ix) wC).alloc _).setCell (p := ⟨P.pb ix, p, none⟩) (.inl rfl) _).drew)
                                            case q2_13t =>
                                              clear hK K
                                              try simp only [Act.put, List.getElem_toArray, List.getElem_cons_succ, List.getElem_cons_zero, List.setIfInBounds_toArray, List.set_cons_zero, List.set_cons_succ]
                                              refine wpAnyH_done (by kernel_rfl) ?q2z _
                                              case q2z =>
                                                go_wp2_with fail
                                                go_ret
                                                rw [hr3.out]
                                                exact ⟨rfl, _, hF.out⟩
        | false =>
          have hb2 := Lib.hid (show A.badP A.ops d n 2 = false by rw [hbad.out]; rfl)
          clear hbad
          have g3 := RfB.cell hIC.out.1 3
          simp only [rfCells, List.getElem?_toArray, List.getElem?_cons_zero, List.getElem?_cons_succ] at g3
          rw [show (A.tickP.setB d n ((A.tickP.B d n).at ((p : Int) + 1))).S.bytes = A.S.bytes from rfl] at g3
          have u0 : wC.cell? ⟨P.bb, ix * 3, none⟩ = some (.slice (some ⟨P.pb ix, 0, none⟩) A.S.pages (P.pc ix)) := by rw [← hix'.out]; exact (RfB.cellD hIC.out.1 hd'.out hn'.out).1
          obtain ⟨hne1, hne2, _⟩ := hIC.out.pbne hd'.out hn'.out
          have hne1 : P.pb ix ≠ P.rb := by rw [← hix'.out]; exact hne1
          have hne2 : P.pb ix ≠ P.bb := by rw [← hix'.out]; exact hne2
          obtain ⟨xo, co, p0, pz, _, _⟩ := hIC.out.pgs (p := p) hd'.out hn'.out hp'.out
          have p0 : wC.cell? ⟨P.pb ix, p, none⟩ = some (.slice (some ⟨xo, 0, none⟩) A.S.bytes co) := by rw [← hix'.out]; exact p0
          have pz : wC.frozen? ⟨P.pb ix, p, none⟩ = false := by rw [← hix'.out]; exact pz
          have hBk := Lib.hid (blank42 wC A.S.bytes (by omega))
          go_wp2_with fail
          refine (hBk.out).mono ?_
          rintro e w9 ⟨a9, c9, rfl, hr9, k9, hn9⟩
          obtain ⟨x9, hx9, hx9n⟩ : ∃ x, a9 = some ⟨x, 0, none⟩ ∧ wC.heap.size ≤ x := by
            rcases RowAt.form hr9 with ⟨_, h, _⟩ | ⟨g, _, h, _⟩
            · rw [List.length_replicate] at h; omega
            · exact ⟨g, h, hn9 g (by rw [h]; rfl)⟩
          subst hx9
          have hst := Lib.hid (show Keeps Nil wC w9 ∧ NumRow .u8 w9 5 (some ⟨x9, 0, none⟩) c9 (cutAt 0 A.S.bytes l) from ⟨k9, by rw [cutAt_zero]; exact hr9⟩)
          clear hr9 k9 hn9 hBk g3
          go_wp2_with fail
          go_loopw [20] (fun i wr => ∃ j : Nat, j ≤ A.S.bytes ∧ i = .int .i64 j ∧ Hid (Keeps Nil wC wr ∧ NumRow .u8 wr 5 (some ⟨x9, 0, none⟩) c9 (cutAt j A.S.bytes l))) (fun i _ => A.S.bytes - (intOf i).toNat)
          case atStart => exact ⟨0, Nat.zero_le _, rfl, hst⟩
          case round =>
            clear hst
            obtain ⟨j, hj, rfl, hrel⟩ := hrel
            have hcl : (cutAt j A.S.bytes l).length = A.S.bytes := cutAt_len' hx'.out.2.1
            by_cases hjb : j < A.S.bytes
            · have hjs : j < A.S.bytes := by omega
              have hj4 : j < 4096 := by omega
              obtain ⟨gx, hgx, _, y1, y2⟩ := hrel.out.2.cell (q := j) (by rw [hcl]; exact hjs)
              cases hgx
              obtain ⟨_, _, rfl, b1⟩ := hx'.out.1 j (by rw [hx'.out.2.1]; exact hjs)
              have b1 := hrel.out.1.cell (hIC.out.2.1.cell b1 (hx'.out.2.2 _ rfl)) (fun h => h)
              have hD := Lib.hid (show Keeps Nil wC (wr.setCell ⟨x9, j, none⟩ (.int .u8 (gi l j))) ∧ NumRow .u8 (wr.setCell ⟨x9, j, none⟩ (.int .u8 (gi l j))) 5 (some ⟨x9, 0, none⟩) c9 (cutAt (j + 1) A.S.bytes l) from ⟨hrel.out.1.setCell (p := ⟨x9, j, none⟩) (.inr hx9n) _, by rw [← cutAt_set hx'.out.2.1 hjs]; exact hrel.out.2.set j _⟩)
              clear hrel
              go_wp2_with fail
              go_roundw
              case rel => exact ⟨j + 1, by omega, by go_num, hD⟩
              case measure => simp [intOf]; omega
            · have hjn : j = A.S.bytes := by omega
              have u9 := hrel.out.1.cell u0 (fun h => h)
              have p9 := hrel.out.1.cell p0 (fun h => h)
              have z9 := hrel.out.1.frozen pz (lt_of_cell p0) (fun h => h)
              have hD := Lib.hid (show ∃ O', RfI w P O (wr.setCell ⟨P.pb ix, p, none⟩ (.slice (some ⟨x9, 0, none⟩) A.S.bytes c9)) (A.tickP.progOk d n p (cutAt j A.S.bytes l)) O' from ⟨_, by rw [← hix'.out]; exact RfI.prog (A := A.tickP) hIC.out hrel.out.1 hd'.out hn'.out hp'.out hrel.out.2 hx9n hcl⟩)
              clear hrel
              go_wp2_with fail
              go_ret
              rw [hr2.out _ (prog_ok_n hct'.out hdd'.out hb2.out)]
              rw [hjn, cutAt_all hx'.out.2.1 (Nat.le_refl _)] at hD
              obtain ⟨O2, hD2⟩ := hD.out
              exact ⟨rfl, O2, hD2⟩
  | some pt =>
    rw [show cutV (some pt) = #[.int .i64 pt, .bool true] from rfl] at hCt
    have hpt := cut_part hg'.out.ok hct'.out
    go_wp2_with fail
    refine (hCt.out).mono ?_
    rintro e w5 ⟨rfl, hw5⟩
    rw [hw5]
    clear hw5 w5 hCt
    go_wp2_with fail
    refine (hSt.out).mono ?_
    rintro e w5 ⟨rfl, k5⟩
    have hI5 := hI4'.out.nil k5
    have c7 := RfB.cell hI5.1 7
    have f7 := frozen_of_heap hI5.blk 7
    have c14 := RfB.cell hI5.1 14
    have f14 := frozen_of_heap hI5.blk 14
    simp only [rfCells, List.getElem?_toArray, List.getElem?_cons_zero, List.getElem?_cons_succ] at c7 c14
    rw [show A.tickP.cuts = A.cuts from rfl] at c14
    have k6 : Keeps (· = P.rb) w5 ((w5.setCell ⟨P.rb, 7, none⟩ (.bool true)).setCell ⟨P.rb, 14, none⟩ (.int .i64 ((A.cuts : Int) + 1))) := ((Keeps.refl (· = P.rb) w5).setCell (p := ⟨P.rb, 7, none⟩) (.inl rfl) _).setCell (.inl rfl) _
    have hI6 := hI5.cells (A' := { A.tickP with off := true, cuts := A.cuts + 1 }) k6 (by rw [heap_setCell_same (heap_setCell_same hI5.blk _ _)]; rfl) rfl rfl rfl
    have c14b : (w5.setCell ⟨P.rb, 7, none⟩ (.bool true)).cell? ⟨P.rb, 14, none⟩ = some (.int .i64 (A.cuts : Nat)) := by rw [cell_of_heap (heap_setCell_same hI5.blk _ _)]; rfl
    have f14b : (w5.setCell ⟨P.rb, 7, none⟩ (.bool true)).frozen? ⟨P.rb, 14, none⟩ = false := frozen_of_heap (heap_setCell_same hI5.blk _ _) 14
    obtain ⟨w6, hw6⟩ : ∃ w6, (w5.setCell ⟨P.rb, 7, none⟩ (.bool true)).setCell ⟨P.rb, 14, none⟩ (.int .i64 ((A.cuts : Int) + 1)) = w6 := ⟨_, rfl⟩
    rw [hw6] at hI6
    have hw6' := Lib.hid hw6
    have hI6' := Lib.hid hI6
    clear k5 hSt hI4' hI5 hI6 k6 hw6
    go_upto_region 16 with (fail)
    rw [hw6'.out]
    clear hw6' c7 f7 c14 f14 c14b f14b w5
    cases dd with
    | true =>
      have hr3 := Lib.hid (hr2.out _ (doOp_cutdie (A1 := A.tickP) hct'.out hdd'.out))
      go_wp2_with fail
      go_ret
      rw [hr3.out]
      exact ⟨rfl, _, hI6'.out⟩
    | false =>
      have e1 : w6.cell? ⟨P.bb, ix * 3 + 1, none⟩ = some (.int .i64 (p : Nat)) := by rw [← hix'.out, ← hnx'.out]; exact (RfB.cellD hI6'.out.1 hd'.out hn'.out).2.1
      have ez : w6.frozen? ⟨P.bb, ix * 3 + 1, none⟩ = false := (RfB.cellD hI6'.out.1 hd'.out hn'.out).2.2.2 _
      have hIW : RfI w P O (w6.setCell ⟨P.bb, ix * 3 + 1, none⟩ (.int .i64 ((p : Int) + 1))) (({ A.tickP with off := true, cuts := A.cuts + 1 } : Nd).setB d n ((({ A.tickP with off := true, cuts := A.cuts + 1 } : Nd).B d n).at ((p : Int) + 1))) O := by
        rw [← hix'.out]; exact hI6'.out.next hd'.out hn'.out ((p : Int) + 1)
      obtain ⟨wW, hwW⟩ : ∃ wW, w6.setCell ⟨P.bb, ix * 3 + 1, none⟩ (.int .i64 ((p : Int) + 1)) = wW := ⟨_, rfl⟩
      rw [hwW] at hIW
      have hwW' := Lib.hid hwW
      have hS2 := Lib.hid (struck68 hIW.1 hL (A.ops : Int) 2 d n)
      have hS6 := Lib.hid (fun W (hk : Keeps Nil wW W) => struck68 (RfB.nil hIW.1 hk) hL (A.ops : Int) 6 d n)
      rw [show (({ A.tickP with off := true, cuts := A.cuts + 1 } : Nd).setB d n ((({ A.tickP with off := true, cuts := A.cuts + 1 } : Nd).B d n).at ((p : Int) + 1))).struck (A.ops : Int) 2 d n = A.struck A.ops 2 d n from rfl] at hS2
      rw [show (({ A.tickP with off := true, cuts := A.cuts + 1 } : Nd).setB d n ((({ A.tickP with off := true, cuts := A.cuts + 1 } : Nd).B d n).at ((p : Int) + 1))).struck (A.ops : Int) 6 d n = A.struck A.ops 6 d n from rfl] at hS6
      obtain ⟨s2, hs2⟩ : ∃ s, A.struck A.ops 2 d n = s := ⟨_, rfl⟩
      obtain ⟨s6, hs6⟩ : ∃ s, A.struck A.ops 6 d n = s := ⟨_, rfl⟩
      have hbad := Lib.hid (show A.badP A.ops d n 2 = (s2 || s6) by unfold Nd.badP; rw [hs2, hs6])
      rw [hs2] at hS2
      rw [hs6] at hS6
      have hIW' := Lib.hid hIW
      clear hIW hwW hI6' hs2 hs6
      go_upto_region 21 with (fail)
      rw [hwW'.out]
      clear e1 ez hwW'
      go_wp2_with fail
      refine (hS2.out).mono ?_
      rintro e wB ⟨rfl, kB⟩
      have hS6b := Lib.hid (hS6.out wB kB)
      have hIB := Lib.hid (hIW'.out.nil kB)
      clear kB hS2 hS6 hIW'
      cases s2 with
      | true =>
        have hb2 := Lib.hid (show A.badP A.ops d n 2 = true by rw [hbad.out]; rfl)
        clear hbad hS6b
        have g3 := RfB.cell hIB.out.1 3
        simp only [rfCells, List.getElem?_toArray, List.getElem?_cons_zero, List.getElem?_cons_succ] at g3
        rw [show (({ A.tickP with off := true, cuts := A.cuts + 1 } : Nd).setB d n ((({ A.tickP with off := true, cuts := A.cuts + 1 } : Nd).B d n).at ((p : Int) + 1))).S.bytes = A.S.bytes from rfl] at g3
        have u0 : wB.cell? ⟨P.bb, ix * 3, none⟩ = some (.slice (some ⟨P.pb ix, 0, none⟩) A.S.pages (P.pc ix)) := by rw [← hix'.out]; exact (RfB.cellD hIB.out.1 hd'.out hn'.out).1
        obtain ⟨hne1, hne2, _⟩ := hIB.out.pbne hd'.out hn'.out
        have hne1 : P.pb ix ≠ P.rb := by rw [← hix'.out]; exact hne1
        have hne2 : P.pb ix ≠ P.bb := by rw [← hix'.out]; exact hne2
        obtain ⟨xo, co, p0, pz, _, _⟩ := hIB.out.pgs (p := p) hd'.out hn'.out hp'.out
        have p0 : wB.cell? ⟨P.pb ix, p, none⟩ = some (.slice (some ⟨xo, 0, none⟩) A.S.bytes co) := by rw [← hix'.out]; exact p0
        have pz : wB.frozen? ⟨P.pb ix, p, none⟩ = false := by rw [← hix'.out]; exact pz
        have hM22 := make22 A.S.bytes (by omega)
        have hS := Lib.hid (show ∀ W, Keeps (· = P.pb ix) wB W → W.cell? ⟨P.bb, ix * 3, none⟩ = some (.slice (some ⟨P.pb ix, 0, none⟩) A.S.pages (P.pc ix)) ∧ W.cell? ⟨P.rb, 3, none⟩ = some (.int .i64 (A.S.bytes : Nat)) from fun W hW => ⟨hW.cell u0 (fun e => hne2 e.symm), hW.cell g3 (fun e => hne1 e.symm)⟩)
        have ka := ((Keeps.refl Nil wB).alloc (.cells (Array.replicate A.S.bytes (.int .u8 0)) 5))
        have hza := heap_alloc_new wB (.cells (Array.replicate A.S.bytes (.int .u8 0)) 5)
        have p9 := ka.cell p0 (fun h => h)
        have z9 := ka.frozen pz (lt_of_cell p0) (fun h => h)
        have p9d := ka.drew.cell p0 (fun h => h)
        have z9d := ka.drew.frozen pz (lt_of_cell p0) (fun h => h)
        have hD := Lib.hid (show RfI w P O (((wB.alloc (.cells (Array.replicate A.S.bytes (.int .u8 0)) 5)).setCell ⟨P.pb ix, p, none⟩ (.slice (some ⟨wB.heap.size, 0, none⟩) A.S.bytes A.S.bytes)).drew) (({ A.tickP with off := true, cuts := A.cuts + 1 } : Nd).progBad d n p) (fun k => O k ∨ k = wB.heap.size) from RfI.nil (by
          rw [← hix'.out]
          exact RfI.prog (A := ({ A.tickP with off := true, cuts := A.cuts + 1 } : Nd)) hIB.out ka hd'.out hn'.out hp'.out (numRow5_replicate hza (by omega)) (Nat.le_refl _) (by rw [List.length_replicate])) (Keeps.refl Nil _).drew)
        have hr3 := Lib.hid (hr2.out _ (prog_bad_c hct'.out hdd'.out hb2.out))
        clear hIB u0 g3 hne1 hne2 p0 pz ka hza
        go_upto_region 23 with (fail)
        refine wp_region_held_drew (S := fun W => W.cell? ⟨P.bb, ix * 3, none⟩ = some (.slice (some ⟨P.pb ix, 0, none⟩) A.S.pages (P.pc ix)) ∧ W.cell? ⟨P.rb, 3, none⟩ = some (.int .i64 (A.S.bytes : Nat))) (by kernel_rfl) ?q3a (fun hHeld => ?q3b)
        case q3a => (try dsimp only); first | exact hS.out _ (Keeps.refl (· = P.pb ix) wB).drew | exact hS.out _ ((Keeps.refl (· = P.pb ix) wB).drew.alloc _) | exact hS.out _ (((Keeps.refl (· = P.pb ix) wB).alloc _).drew) | exact hS.out _ (((Keeps.refl (· = P.pb ix) wB).drew.alloc _).setCell (p := ⟨P.pb ix, p, none⟩) (.inl rfl) _) | exact hS.out _ ((((Keeps.refl (· = P.pb ix) wB).alloc _).setCell (p := ⟨P.pb ix, p, none⟩) (.inl rfl) _).drew)
        case q3b =>
          refine wpAnyH_take (i := 0) (oi := _) (v := ?q3_1v) rfl (by kernel_rfl) (by kernel_rfl) (by kernel_rfl) (fun _ _ _ h => h) (Or.inl ⟨by rfl, ?q3_1y⟩) (by assumption) ?q3_1r
          case q3_1y => (intro w0 hSw; (try dsimp only at hSw); go_simp; try (with_reducible rfl))
          case q3_1r =>
            simp only [Act.put, List.getElem_toArray, List.getElem_cons_zero, List.setIfInBounds_toArray, List.set_cons_zero, List.set_cons_succ]
            refine wpAnyH_take (i := 1) (oi := _) (v := ?q3_2v) rfl (by kernel_rfl) (by kernel_rfl) (by kernel_rfl) (fun _ _ _ h => h) (Or.inl ⟨by rfl, ?q3_2y⟩) (by assumption) ?q3_2r
            case q3_2y => (intro w0 hSw; (try dsimp only at hSw); go_simp; try (with_reducible rfl))
            case q3_2r =>
              simp only [Act.put, List.getElem_toArray, List.getElem_cons_succ, List.getElem_cons_zero, List.setIfInBounds_toArray, List.set_cons_zero, List.set_cons_succ]
              refine wpAnyH_take (i := 2) (oi := _) (v := ?q3_3v) rfl (by kernel_rfl) (by kernel_rfl) (by kernel_rfl) (fun _ _ _ h => h) (Or.inl ⟨by rfl, ?q3_3y⟩) (by assumption) ?q3_3r
              case q3_3y => (intro w0 hSw; (try dsimp only at hSw); go_simp; try (with_reducible rfl))
              case q3_3r =>
                simp only [Act.put, List.getElem_toArray, List.getElem_cons_succ, List.getElem_cons_zero, List.setIfInBounds_toArray, List.set_cons_zero, List.set_cons_succ]
                refine wpAnyH_take (i := 3) (oi := _) (v := ?q3_4v) rfl (by kernel_rfl) (by kernel_rfl) (by kernel_rfl) (fun _ _ _ h => h) (Or.inl ⟨by rfl, ?q3_4y⟩) (by assumption) ?q3_4r
                case q3_4y => (intro w0 hSw; (try dsimp only at hSw); go_simp; try (with_reducible rfl))
                case q3_4r =>
                  simp only [Act.put, List.getElem_toArray, List.getElem_cons_succ, List.getElem_cons_zero, List.setIfInBounds_toArray, List.set_cons_zero, List.set_cons_succ]
                  refine wpAnyH_take (i := 4) (oi := _) (v := ?q3_5v) rfl (by kernel_rfl) (by kernel_rfl) (by kernel_rfl) (fun _ _ _ h => h) (Or.inl ⟨by rfl, ?q3_5y⟩) (by assumption) ?q3_5r
                  case q3_5y => (intro w0 hSw; (try dsimp only at hSw); go_simp; try (with_reducible rfl))
                  case q3_5r =>
                    simp only [Act.put, List.getElem_toArray, List.getElem_cons_succ, List.getElem_cons_zero, List.setIfInBounds_toArray, List.set_cons_zero, List.set_cons_succ]
                    refine wpAnyH_take (i := 5) (oi := _) (v := ?q3_6v) rfl (by kernel_rfl) (by kernel_rfl) (by kernel_rfl) (fun _ _ _ h => h) (Or.inl ⟨by rfl, ?q3_6y⟩) (by assumption) ?q3_6r
                    case q3_6y => (intro w0 hSw; (try dsimp only at hSw); go_simp; try (with_reducible rfl))
                    case q3_6r =>
                      simp only [Act.put, List.getElem_toArray, List.getElem_cons_succ, List.getElem_cons_zero, List.setIfInBounds_toArray, List.set_cons_zero, List.set_cons_succ]
                      refine wpAnyH_take (i := 6) (oi := _) (v := ?q3_7v) rfl (by kernel_rfl) (by kernel_rfl) (by kernel_rfl) (fun _ _ _ h => h) (Or.inl ⟨by rfl, ?q3_7y⟩) (by assumption) ?q3_7r
                      case q3_7y => (intro w0 hSw; (try dsimp only at hSw); go_simp; try (with_reducible rfl))
                      case q3_7r =>
                        simp only [Act.put, List.getElem_toArray, List.getElem_cons_succ, List.getElem_cons_zero, List.setIfInBounds_toArray, List.set_cons_zero, List.set_cons_succ]
                        refine wpAnyH_take (i := 7) (oi := _) (v := ?q3_8v) rfl (by kernel_rfl) (by kernel_rfl) (by kernel_rfl) (fun _ _ _ h => h) (Or.inl ⟨by rfl, ?q3_8y⟩) (by assumption) ?q3_8r
                        case q3_8y => (intro w0 hSw; (try dsimp only at hSw); go_simp; try (with_reducible rfl))
                        case q3_8r =>
                          simp only [Act.put, List.getElem_toArray, List.getElem_cons_succ, List.getElem_cons_zero, List.setIfInBounds_toArray, List.set_cons_zero, List.set_cons_succ]
                          refine wpAnyH_take (i := 8) (oi := _) (v := ?q3_9v) rfl (by kernel_rfl) (by kernel_rfl) (by kernel_rfl) (fun _ _ _ h => h) (Or.inl ⟨by rfl, ?q3_9y⟩) (by assumption) ?q3_9r
                          case q3_9y => (intro w0 hSw; (try dsimp only at hSw); go_simp; try (with_reducible rfl))
                          case q3_9r =>
                            simp only [Act.put, List.getElem_toArray, List.getElem_cons_succ, List.getElem_cons_zero, List.setIfInBounds_toArray, List.set_cons_zero, List.set_cons_succ]
                            refine wpAnyH_take (i := 9) (oi := _) (v := ?q3_10v) rfl (by kernel_rfl) (by kernel_rfl) (by kernel_rfl) (fun _ _ _ h => h) (Or.inl ⟨by rfl, ?q3_10y⟩) (by assumption) ?q3_10r
                            case q3_10y => (intro w0 hSw; (try dsimp only at hSw); go_simp; try (with_reducible rfl))
                            case q3_10r =>
                              simp only [Act.put, List.getElem_toArray, List.getElem_cons_succ, List.getElem_cons_zero, List.setIfInBounds_toArray, List.set_cons_zero, List.set_cons_succ]
                              refine wpAnyH_ready (rs := [10]) (by kernel_rfl) (by simp) ?q3_11g
                              case q3_11g =>
                                refine AllReadyH.cons (o := _) rfl (fun K hK => ?q3_11k) AllReadyH.nil
                                case q3_11k =>
                                  go_simp
                                  refine hK.out _ _ ?q3_11s (fun hHeld => ?q3_11t)
                                  case q3_11s => (try dsimp only); first | exact hS.out _ (Keeps.refl (· = P.pb ix) wB).drew | exact hS.out _ ((Keeps.refl (· = P.pb ix) wB).drew.alloc _) | exact hS.out _ (((Keeps.refl (· = P.pb ix) wB).alloc _).drew) | exact hS.out _ (((Keeps.refl (· = P.pb ix) wB).drew.alloc _).setCell (p := ⟨P.pb ix, p, none⟩) (.inl rfl) _) | exact hS.out _ ((((Keeps.refl (· = P.pb ix) wB).alloc _).setCell (p := ⟨P.pb ix, p, none⟩) (.inl rfl) _).drew)
                                  case q3_11t =>
                                    clear hK K
                                    try simp only [Act.put, List.getElem_toArray, List.getElem_cons_succ, List.getElem_cons_zero, List.setIfInBounds_toArray, List.set_cons_zero, List.set_cons_succ]
                                    refine wpAnyH_take (i := 11) (oi := _) (v := ?q3_12v) rfl (by kernel_rfl) (by kernel_rfl) (by kernel_rfl) (fun _ _ _ h => h) (Or.inl ⟨by rfl, ?q3_12y⟩) (by assumption) ?q3_12r
                                    case q3_12y => (intro w0 hSw; (try dsimp only at hSw); go_simp; try (with_reducible rfl))
                                    case q3_12r =>
                                      simp only [Act.put, List.getElem_toArray, List.getElem_cons_succ, List.getElem_cons_zero, List.setIfInBounds_toArray, List.set_cons_zero, List.set_cons_succ]
                                      refine wpAnyH_ready (rs := [12]) (by kernel_rfl) (by simp) ?q3_13g
                                      case q3_13g =>
                                        refine AllReadyH.cons (o := _) rfl (fun K hK => ?q3_13k) AllReadyH.nil
                                        case q3_13k =>
                                          go_simp
                                          refine hK.out _ _ ?q3_13s (fun hHeld => ?q3_13t)
                                          case q3_13s => (try dsimp only); first | exact hS.out _ (Keeps.refl (· = P.pb ix) wB).drew | exact hS.out _ ((Keeps.refl (· = P.pb ix) wB).drew.alloc _) | exact hS.out _ (((Keeps.refl (· = P.pb ix) wB).alloc _).drew) | exact hS.out _ (((Keeps.refl (· = P.pb ix) wB).drew.alloc _).setCell (p := ⟨P.pb ix, p, none⟩) (.inl rfl) _) | exact hS.out _ ((((Keeps.refl (· = P.pb ix) wB).alloc _).setCell (p := ⟨P.pb ix, p, none⟩) (.inl rfl) _).drew)
                                          case q3_13t =>
                                            clear hK K
                                            try simp only [Act.put, List.getElem_toArray, List.getElem_cons_succ, List.getElem_cons_zero, List.setIfInBounds_toArray, List.set_cons_zero, List.set_cons_succ]
                                            refine wpAnyH_done (by kernel_rfl) ?q3z _
                                            case q3z =>
                                              go_wp2_with fail
                                              go_ret
                                              rw [hr3.out]
                                              exact ⟨rfl, _, hD.out⟩
      | false =>
        go_wp2_with fail
        refine (hS6b.out).mono ?_
        rintro e wC ⟨rfl, kC⟩
        have hIC := Lib.hid (hIB.out.nil kC)
        clear kC hS6b hIB
        cases s6 with
        | true =>
          have hb2 := Lib.hid (show A.badP A.ops d n 2 = true by rw [hbad.out]; rfl)
          clear hbad
          have g3 := RfB.cell hIC.out.1 3
          simp only [rfCells, List.getElem?_toArray, List.getElem?_cons_zero, List.getElem?_cons_succ] at g3
          rw [show (({ A.tickP with off := true, cuts := A.cuts + 1 } : Nd).setB d n ((({ A.tickP with off := true, cuts := A.cuts + 1 } : Nd).B d n).at ((p : Int) + 1))).S.bytes = A.S.bytes from rfl] at g3
          have u0 : wC.cell? ⟨P.bb, ix * 3, none⟩ = some (.slice (some ⟨P.pb ix, 0, none⟩) A.S.pages (P.pc ix)) := by rw [← hix'.out]; exact (RfB.cellD hIC.out.1 hd'.out hn'.out).1
          obtain ⟨hne1, hne2, _⟩ := hIC.out.pbne hd'.out hn'.out
          have hne1 : P.pb ix ≠ P.rb := by rw [← hix'.out]; exact hne1
          have hne2 : P.pb ix ≠ P.bb := by rw [← hix'.out]; exact hne2
          obtain ⟨xo, co, p0, pz, _, _⟩ := hIC.out.pgs (p := p) hd'.out hn'.out hp'.out
          have p0 : wC.cell? ⟨P.pb ix, p, none⟩ = some (.slice (some ⟨xo, 0, none⟩) A.S.bytes co) := by rw [← hix'.out]; exact p0
          have pz : wC.frozen? ⟨P.pb ix, p, none⟩ = false := by rw [← hix'.out]; exact pz
          have hM22 := make22 A.S.bytes (by omega)
          have hS := Lib.hid (show ∀ W, Keeps (· = P.pb ix) wC W → W.cell? ⟨P.bb, ix * 3, none⟩ = some (.slice (some ⟨P.pb ix, 0, none⟩) A.S.pages (P.pc ix)) ∧ W.cell? ⟨P.rb, 3, none⟩ = some (.int .i64 (A.S.bytes : Nat)) from fun W hW => ⟨hW.cell u0 (fun e => hne2 e.symm), hW.cell g3 (fun e => hne1 e.symm)⟩)
          have ka := ((Keeps.refl Nil wC).alloc (.cells (Array.replicate A.S.bytes (.int .u8 0)) 5))
          have hza := heap_alloc_new wC (.cells (Array.replicate A.S.bytes (.int .u8 0)) 5)
          have p9 := ka.cell p0 (fun h => h)
          have z9 := ka.frozen pz (lt_of_cell p0) (fun h => h)
          have p9d := ka.drew.cell p0 (fun h => h)
          have z9d := ka.drew.frozen pz (lt_of_cell p0) (fun h => h)
          have hD := Lib.hid (show RfI w P O (((wC.alloc (.cells (Array.replicate A.S.bytes (.int .u8 0)) 5)).setCell ⟨P.pb ix, p, none⟩ (.slice (some ⟨wC.heap.size, 0, none⟩) A.S.bytes A.S.bytes)).drew) (({ A.tickP with off := true, cuts := A.cuts + 1 } : Nd).progBad d n p) (fun k => O k ∨ k = wC.heap.size) from RfI.nil (by
            rw [← hix'.out]
            exact RfI.prog (A := ({ A.tickP with off := true, cuts := A.cuts + 1 } : Nd)) hIC.out ka hd'.out hn'.out hp'.out (numRow5_replicate hza (by omega)) (Nat.le_refl _) (by rw [List.length_replicate])) (Keeps.refl Nil _).drew)
          have hr3 := Lib.hid (hr2.out _ (prog_bad_c hct'.out hdd'.out hb2.out))
          clear hIC u0 g3 hne1 hne2 p0 pz ka hza
          go_upto_region 23 with (fail)
          refine wp_region_held_drew (S := fun W => W.cell? ⟨P.bb, ix * 3, none⟩ = some (.slice (some ⟨P.pb ix, 0, none⟩) A.S.pages (P.pc ix)) ∧ W.cell? ⟨P.rb, 3, none⟩ = some (.int .i64 (A.S.bytes : Nat))) (by kernel_rfl) ?q4a (fun hHeld => ?q4b)
          case q4a => (try dsimp only); first | exact hS.out _ (Keeps.refl (· = P.pb ix) wC).drew | exact hS.out _ ((Keeps.refl (· = P.pb ix) wC).drew.alloc _) | exact hS.out _ (((Keeps.refl (· = P.pb ix) wC).alloc _).drew) | exact hS.out _ (((Keeps.refl (· = P.pb ix) wC).drew.alloc _).setCell (p := ⟨P.pb ix, p, none⟩) (.inl rfl) _) | exact hS.out _ ((((Keeps.refl (· = P.pb ix) wC).alloc _).setCell (p := ⟨P.pb ix, p, none⟩) (.inl rfl) _).drew)
          case q4b =>
            refine wpAnyH_take (i := 0) (oi := _) (v := ?q4_1v) rfl (by kernel_rfl) (by kernel_rfl) (by kernel_rfl) (fun _ _ _ h => h) (Or.inl ⟨by rfl, ?q4_1y⟩) (by assumption) ?q4_1r
            case q4_1y => (intro w0 hSw; (try dsimp only at hSw); go_simp; try (with_reducible rfl))
            case q4_1r =>
              simp only [Act.put, List.getElem_toArray, List.getElem_cons_zero, List.setIfInBounds_toArray, List.set_cons_zero, List.set_cons_succ]
              refine wpAnyH_take (i := 1) (oi := _) (v := ?q4_2v) rfl (by kernel_rfl) (by kernel_rfl) (by kernel_rfl) (fun _ _ _ h => h) (Or.inl ⟨by rfl, ?q4_2y⟩) (by assumption) ?q4_2r
              case q4_2y => (intro w0 hSw; (try dsimp only at hSw); go_simp; try (with_reducible rfl))
              case q4_2r =>
                simp only [Act.put, List.getElem_toArray, List.getElem_cons_succ, List.getElem_cons_zero, List.setIfInBounds_toArray, List.set_cons_zero, List.set_cons_succ]
                refine wpAnyH_take (i := 2) (oi := _) (v := ?q4_3v) rfl (by kernel_rfl) (by kernel_rfl) (by kernel_rfl) (fun _ _ _ h => h) (Or.inl ⟨by rfl, ?q4_3y⟩) (by assumption) ?q4_3r
                case q4_3y => (intro w0 hSw; (try dsimp only at hSw); go_simp; try (with_reducible rfl))
                case q4_3r =>
                  simp only [Act.put, List.getElem_toArray, List.getElem_cons_succ, List.getElem_cons_zero, List.setIfInBounds_toArray, List.set_cons_zero, List.set_cons_succ]
                  refine wpAnyH_take (i := 3) (oi := _) (v := ?q4_4v) rfl (by kernel_rfl) (by kernel_rfl) (by kernel_rfl) (fun _ _ _ h => h) (Or.inl ⟨by rfl, ?q4_4y⟩) (by assumption) ?q4_4r
                  case q4_4y => (intro w0 hSw; (try dsimp only at hSw); go_simp; try (with_reducible rfl))
                  case q4_4r =>
                    simp only [Act.put, List.getElem_toArray, List.getElem_cons_succ, List.getElem_cons_zero, List.setIfInBounds_toArray, List.set_cons_zero, List.set_cons_succ]
                    refine wpAnyH_take (i := 4) (oi := _) (v := ?q4_5v) rfl (by kernel_rfl) (by kernel_rfl) (by kernel_rfl) (fun _ _ _ h => h) (Or.inl ⟨by rfl, ?q4_5y⟩) (by assumption) ?q4_5r
                    case q4_5y => (intro w0 hSw; (try dsimp only at hSw); go_simp; try (with_reducible rfl))
                    case q4_5r =>
                      simp only [Act.put, List.getElem_toArray, List.getElem_cons_succ, List.getElem_cons_zero, List.setIfInBounds_toArray, List.set_cons_zero, List.set_cons_succ]
                      refine wpAnyH_take (i := 5) (oi := _) (v := ?q4_6v) rfl (by kernel_rfl) (by kernel_rfl) (by kernel_rfl) (fun _ _ _ h => h) (Or.inl ⟨by rfl, ?q4_6y⟩) (by assumption) ?q4_6r
                      case q4_6y => (intro w0 hSw; (try dsimp only at hSw); go_simp; try (with_reducible rfl))
                      case q4_6r =>
                        simp only [Act.put, List.getElem_toArray, List.getElem_cons_succ, List.getElem_cons_zero, List.setIfInBounds_toArray, List.set_cons_zero, List.set_cons_succ]
                        refine wpAnyH_take (i := 6) (oi := _) (v := ?q4_7v) rfl (by kernel_rfl) (by kernel_rfl) (by kernel_rfl) (fun _ _ _ h => h) (Or.inl ⟨by rfl, ?q4_7y⟩) (by assumption) ?q4_7r
                        case q4_7y => (intro w0 hSw; (try dsimp only at hSw); go_simp; try (with_reducible rfl))
                        case q4_7r =>
                          simp only [Act.put, List.getElem_toArray, List.getElem_cons_succ, List.getElem_cons_zero, List.setIfInBounds_toArray, List.set_cons_zero, List.set_cons_succ]
                          refine wpAnyH_take (i := 7) (oi := _) (v := ?q4_8v) rfl (by kernel_rfl) (by kernel_rfl) (by kernel_rfl) (fun _ _ _ h => h) (Or.inl ⟨by rfl, ?q4_8y⟩) (by assumption) ?q4_8r
                          case q4_8y => (intro w0 hSw; (try dsimp only at hSw); go_simp; try (with_reducible rfl))
                          case q4_8r =>
                            simp only [Act.put, List.getElem_toArray, List.getElem_cons_succ, List.getElem_cons_zero, List.setIfInBounds_toArray, List.set_cons_zero, List.set_cons_succ]
                            refine wpAnyH_take (i := 8) (oi := _) (v := ?q4_9v) rfl (by kernel_rfl) (by kernel_rfl) (by kernel_rfl) (fun _ _ _ h => h) (Or.inl ⟨by rfl, ?q4_9y⟩) (by assumption) ?q4_9r
                            case q4_9y => (intro w0 hSw; (try dsimp only at hSw); go_simp; try (with_reducible rfl))
                            case q4_9r =>
                              simp only [Act.put, List.getElem_toArray, List.getElem_cons_succ, List.getElem_cons_zero, List.setIfInBounds_toArray, List.set_cons_zero, List.set_cons_succ]
                              refine wpAnyH_take (i := 9) (oi := _) (v := ?q4_10v) rfl (by kernel_rfl) (by kernel_rfl) (by kernel_rfl) (fun _ _ _ h => h) (Or.inl ⟨by rfl, ?q4_10y⟩) (by assumption) ?q4_10r
                              case q4_10y => (intro w0 hSw; (try dsimp only at hSw); go_simp; try (with_reducible rfl))
                              case q4_10r =>
                                simp only [Act.put, List.getElem_toArray, List.getElem_cons_succ, List.getElem_cons_zero, List.setIfInBounds_toArray, List.set_cons_zero, List.set_cons_succ]
                                refine wpAnyH_ready (rs := [10]) (by kernel_rfl) (by simp) ?q4_11g
                                case q4_11g =>
                                  refine AllReadyH.cons (o := _) rfl (fun K hK => ?q4_11k) AllReadyH.nil
                                  case q4_11k =>
                                    go_simp
                                    refine hK.out _ _ ?q4_11s (fun hHeld => ?q4_11t)
                                    case q4_11s => (try dsimp only); first | exact hS.out _ (Keeps.refl (· = P.pb ix) wC).drew | exact hS.out _ ((Keeps.refl (· = P.pb ix) wC).drew.alloc _) | exact hS.out _ (((Keeps.refl (· = P.pb ix) wC).alloc _).drew) | exact hS.out _ (((Keeps.refl (· = P.pb ix) wC).drew.alloc _).setCell (p := ⟨P.pb ix, p, none⟩) (.inl rfl) _) | exact hS.out _ ((((Keeps.refl (· = P.pb ix) wC).alloc _).setCell (p := ⟨P.pb ix, p, none⟩) (.inl rfl) _).drew)
                                    case q4_11t =>
                                      clear hK K
                                      try simp only [Act.put, List.getElem_toArray, List.getElem_cons_succ, List.getElem_cons_zero, List.setIfInBounds_toArray, List.set_cons_zero, List.set_cons_succ]
                                      refine wpAnyH_take (i := 11) (oi := _) (v := ?q4_12v) rfl (by kernel_rfl) (by kernel_rfl) (by kernel_rfl) (fun _ _ _ h => h) (Or.inl ⟨by rfl, ?q4_12y⟩) (by assumption) ?q4_12r
                                      case q4_12y => (intro w0 hSw; (try dsimp only at hSw); go_simp; try (with_reducible rfl))
                                      case q4_12r =>
                                        simp only [Act.put, List.getElem_toArray, List.getElem_cons_succ, List.getElem_cons_zero, List.setIfInBounds_toArray, List.set_cons_zero, List.set_cons_succ]
                                        refine wpAnyH_ready (rs := [12]) (by kernel_rfl) (by simp) ?q4_13g
                                        case q4_13g =>
                                          refine AllReadyH.cons (o := _) rfl (fun K hK => ?q4_13k) AllReadyH.nil
                                          case q4_13k =>
                                            go_simp
                                            refine hK.out _ _ ?q4_13s (fun hHeld => ?q4_13t)
                                            case q4_13s => (try dsimp only); first | exact hS.out _ (Keeps.refl (· = P.pb ix) wC).drew | exact hS.out _ ((Keeps.refl (· = P.pb ix) wC).drew.alloc _) | exact hS.out _ (((Keeps.refl (· = P.pb ix) wC).alloc _).drew) | exact hS.out _ (((Keeps.refl (· = P.pb ix) wC).drew.alloc _).setCell (p := ⟨P.pb ix, p, none⟩) (.inl rfl) _) | exact hS.out _ ((((Keeps.refl (· = P.pb ix) wC).alloc _).setCell (p := ⟨P.pb ix, p, none⟩) (.inl rfl) _).drew)
                                            case q4_13t =>
                                              clear hK K
                                              try simp only [Act.put, List.getElem_toArray, List.getElem_cons_succ, List.getElem_cons_zero, List.setIfInBounds_toArray, List.set_cons_zero, List.set_cons_succ]
                                              refine wpAnyH_done (by kernel_rfl) ?q4z _
                                              case q4z =>
                                                go_wp2_with fail
                                                go_ret
                                                rw [hr3.out]
                                                exact ⟨rfl, _, hD.out⟩
        | false =>
          have hb2 := Lib.hid (show A.badP A.ops d n 2 = false by rw [hbad.out]; rfl)
          clear hbad
          have g3 := RfB.cell hIC.out.1 3
          simp only [rfCells, List.getElem?_toArray, List.getElem?_cons_zero, List.getElem?_cons_succ] at g3
          rw [show (({ A.tickP with off := true, cuts := A.cuts + 1 } : Nd).setB d n ((({ A.tickP with off := true, cuts := A.cuts + 1 } : Nd).B d n).at ((p : Int) + 1))).S.bytes = A.S.bytes from rfl] at g3
          have u0 : wC.cell? ⟨P.bb, ix * 3, none⟩ = some (.slice (some ⟨P.pb ix, 0, none⟩) A.S.pages (P.pc ix)) := by rw [← hix'.out]; exact (RfB.cellD hIC.out.1 hd'.out hn'.out).1
          obtain ⟨hne1, hne2, _⟩ := hIC.out.pbne hd'.out hn'.out
          have hne1 : P.pb ix ≠ P.rb := by rw [← hix'.out]; exact hne1
          have hne2 : P.pb ix ≠ P.bb := by rw [← hix'.out]; exact hne2
          obtain ⟨xo, co, p0, pz, _, _⟩ := hIC.out.pgs (p := p) hd'.out hn'.out hp'.out
          have p0 : wC.cell? ⟨P.pb ix, p, none⟩ = some (.slice (some ⟨xo, 0, none⟩) A.S.bytes co) := by rw [← hix'.out]; exact p0
          have pz : wC.frozen? ⟨P.pb ix, p, none⟩ = false := by rw [← hix'.out]; exact pz
          obtain ⟨q, rfl⟩ := Int.eq_ofNat_of_zero_le hpt.1
          by_cases hqp : q < A.S.bytes
          · have hq1 : (q : Int) < (A.S.bytes : Int) := by omega
            have hq2 : decide (q < A.S.bytes) = true := by simpa using hqp
            have hBk := Lib.hid (blank42 wC A.S.bytes (by omega))
            go_wp2_with fail
            refine (hBk.out).mono ?_
            rintro e w9 ⟨a9, c9, rfl, hr9, k9, hn9⟩
            obtain ⟨x9, hx9, hx9n⟩ : ∃ x, a9 = some ⟨x, 0, none⟩ ∧ wC.heap.size ≤ x := by
              rcases RowAt.form hr9 with ⟨_, h, _⟩ | ⟨g, _, h, _⟩
              · rw [List.length_replicate] at h; omega
              · exact ⟨g, h, hn9 g (by rw [h]; rfl)⟩
            subst hx9
            have hst := Lib.hid (show Keeps Nil wC w9 ∧ NumRow .u8 w9 5 (some ⟨x9, 0, none⟩) c9 (cutAt 0 A.S.bytes l) from ⟨k9, by rw [cutAt_zero]; exact hr9⟩)
            clear hr9 k9 hn9 hBk g3
            go_wp2_with fail
            go_loopw [20] (fun i wr => ∃ j : Nat, j ≤ q ∧ i = .int .i64 j ∧ Hid (Keeps Nil wC wr ∧ NumRow .u8 wr 5 (some ⟨x9, 0, none⟩) c9 (cutAt j A.S.bytes l))) (fun i _ => q - (intOf i).toNat)
            case atStart => exact ⟨0, Nat.zero_le _, rfl, hst⟩
            case round =>
              clear hst
              obtain ⟨j, hj, rfl, hrel⟩ := hrel
              have hcl : (cutAt j A.S.bytes l).length = A.S.bytes := cutAt_len' hx'.out.2.1
              by_cases hjb : j < q
              · have hjs : j < A.S.bytes := by omega
                have hj4 : j < 4096 := by omega
                obtain ⟨gx, hgx, _, y1, y2⟩ := hrel.out.2.cell (q := j) (by rw [hcl]; exact hjs)
                cases hgx
                obtain ⟨_, _, rfl, b1⟩ := hx'.out.1 j (by rw [hx'.out.2.1]; exact hjs)
                have b1 := hrel.out.1.cell (hIC.out.2.1.cell b1 (hx'.out.2.2 _ rfl)) (fun h => h)
                have hD := Lib.hid (show Keeps Nil wC (wr.setCell ⟨x9, j, none⟩ (.int .u8 (gi l j))) ∧ NumRow .u8 (wr.setCell ⟨x9, j, none⟩ (.int .u8 (gi l j))) 5 (some ⟨x9, 0, none⟩) c9 (cutAt (j + 1) A.S.bytes l) from ⟨hrel.out.1.setCell (p := ⟨x9, j, none⟩) (.inr hx9n) _, by rw [← cutAt_set hx'.out.2.1 hjs]; exact hrel.out.2.set j _⟩)
                clear hrel
                go_wp2_with fail
                go_roundw
                case rel => exact ⟨j + 1, by omega, by go_num, hD⟩
                case measure => simp [intOf]; omega
              · have hjn : j = q := by omega
                have u9 := hrel.out.1.cell u0 (fun h => h)
                have p9 := hrel.out.1.cell p0 (fun h => h)
                have z9 := hrel.out.1.frozen pz (lt_of_cell p0) (fun h => h)
                have hD := Lib.hid (show ∃ O', RfI w P O (wr.setCell ⟨P.pb ix, p, none⟩ (.slice (some ⟨x9, 0, none⟩) A.S.bytes c9)) (({ A.tickP with off := true, cuts := A.cuts + 1 } : Nd).progOk d n p (cutAt j A.S.bytes l)) O' from ⟨_, by rw [← hix'.out]; exact RfI.prog (A := ({ A.tickP with off := true, cuts := A.cuts + 1 } : Nd)) hIC.out hrel.out.1 hd'.out hn'.out hp'.out hrel.out.2 hx9n hcl⟩)
                clear hrel
                go_wp2_with fail
                go_ret
                rw [hr2.out _ (prog_ok_c hct'.out hdd'.out hb2.out), Int.toNat_natCast]
                rw [hjn] at hD
                obtain ⟨O2, hD2⟩ := hD.out
                exact ⟨rfl, O2, hD2⟩
          · have hq1 : (A.S.bytes : Int) ≤ (q : Int) := by omega
            have hq2 : decide (q < A.S.bytes) = false := by simpa using hqp
            have hBk := Lib.hid (blank42 wC A.S.bytes (by omega))
            go_wp2_with fail
            refine (hBk.out).mono ?_
            rintro e w9 ⟨a9, c9, rfl, hr9, k9, hn9⟩
            obtain ⟨x9, hx9, hx9n⟩ : ∃ x, a9 = some ⟨x, 0, none⟩ ∧ wC.heap.size ≤ x := by
              rcases RowAt.form hr9 with ⟨_, h, _⟩ | ⟨g, _, h, _⟩
              · rw [List.length_replicate] at h; omega
              · exact ⟨g, h, hn9 g (by rw [h]; rfl)⟩
            subst hx9
            have hst := Lib.hid (show Keeps Nil wC w9 ∧ NumRow .u8 w9 5 (some ⟨x9, 0, none⟩) c9 (cutAt 0 A.S.bytes l) from ⟨k9, by rw [cutAt_zero]; exact hr9⟩)
            clear hr9 k9 hn9 hBk g3
            go_wp2_with fail
            go_loopw [20] (fun i wr => ∃ j : Nat, j ≤ A.S.bytes ∧ i = .int .i64 j ∧ Hid (Keeps Nil wC wr ∧ NumRow .u8 wr 5 (some ⟨x9, 0, none⟩) c9 (cutAt j A.S.bytes l))) (fun i _ => A.S.bytes - (intOf i).toNat)
            case atStart => exact ⟨0, Nat.zero_le _, rfl, hst⟩
            case round =>
              clear hst
              obtain ⟨j, hj, rfl, hrel⟩ := hrel
              have hcl : (cutAt j A.S.bytes l).length = A.S.bytes := cutAt_len' hx'.out.2.1
              by_cases hjb : j < A.S.bytes
              · have hjs : j < A.S.bytes := by omega
                have hj4 : j < 4096 := by omega
                obtain ⟨gx, hgx, _, y1, y2⟩ := hrel.out.2.cell (q := j) (by rw [hcl]; exact hjs)
                cases hgx
                obtain ⟨_, _, rfl, b1⟩ := hx'.out.1 j (by rw [hx'.out.2.1]; exact hjs)
                have b1 := hrel.out.1.cell (hIC.out.2.1.cell b1 (hx'.out.2.2 _ rfl)) (fun h => h)
                have hD := Lib.hid (show Keeps Nil wC (wr.setCell ⟨x9, j, none⟩ (.int .u8 (gi l j))) ∧ NumRow .u8 (wr.setCell ⟨x9, j, none⟩ (.int .u8 (gi l j))) 5 (some ⟨x9, 0, none⟩) c9 (cutAt (j + 1) A.S.bytes l) from ⟨hrel.out.1.setCell (p := ⟨x9, j, none⟩) (.inr hx9n) _, by rw [← cutAt_set hx'.out.2.1 hjs]; exact hrel.out.2.set j _⟩)
                clear hrel
                go_wp2_with fail
                go_roundw
                case rel => exact ⟨j + 1, by omega, by go_num, hD⟩
                case measure => simp [intOf]; omega
              · have hjn : j = A.S.bytes := by omega
                have u9 := hrel.out.1.cell u0 (fun h => h)
                have p9 := hrel.out.1.cell p0 (fun h => h)
                have z9 := hrel.out.1.frozen pz (lt_of_cell p0) (fun h => h)
                have hD := Lib.hid (show ∃ O', RfI w P O (wr.setCell ⟨P.pb ix, p, none⟩ (.slice (some ⟨x9, 0, none⟩) A.S.bytes c9)) (({ A.tickP with off := true, cuts := A.cuts + 1 } : Nd).progOk d n p (cutAt j A.S.bytes l)) O' from ⟨_, by rw [← hix'.out]; exact RfI.prog (A := ({ A.tickP with off := true, cuts := A.cuts + 1 } : Nd)) hIC.out hrel.out.1 hd'.out hn'.out hp'.out hrel.out.2 hx9n hcl⟩)
                clear hrel
                go_wp2_with fail
                go_ret
                rw [hr2.out _ (prog_ok_c hct'.out hdd'.out hb2.out), Int.toNat_natCast, cutAt_all hx'.out.2.1 (by omega)]
                rw [hjn, cutAt_all hx'.out.2.1 (Nat.le_refl _)] at hD
                obtain ⟨O2, hD2⟩ := hD.out
                exact ⟨rfl, O2, hD2⟩
end Go.Proofs.Ytglpacdenfoicaa
