/- nand: the whole of a read, the walk -/
import Derived.Test.YtglpacdenfoicaaNdL
namespace Go.Proofs.Ytglpacdenfoicaa
open Go.RowKit

variable {w w' : World} {ab bb bc fc : Nat} {db : Nat → Nat} {pb : Nat → Nat → Nat} {fa : Option Addr} {L : List Fx} {A A' : Nd} {O T : Nat → Prop}
/-- what the closure of a read has caught -/
structure RdBox (w : World) (ca cb cp cd cn ab g o d n p : Nat) : Prop where
  a : w.heap[ca]? = some (.cells #[.pointer (some ⟨ab, 0, none⟩)] 26 (0, 0))
  b : w.heap[cb]? = some (.cells #[.pointer (some ⟨g, o, none⟩)] 83 (0, 0))
  p : w.heap[cp]? = some (.cells #[.int .i64 (p : Nat)] 3 (0, 0))
  d : w.heap[cd]? = some (.cells #[.int .i64 (d : Nat)] 3 (0, 0))
  n : w.heap[cn]? = some (.cells #[.int .i64 (n : Nat)] 3 (0, 0))
theorem RdBox.keeps {ca cb cp cd cn g o d n p : Nat} (h : RdBox w ca cb cp cd cn ab g o d n p) (hk : Keeps T w w') (h1 : ¬ T ca) (h2 : ¬ T cb) (h3 : ¬ T cp) (h4 : ¬ T cd) (h5 : ¬ T cn) : RdBox w' ca cb cp cd cn ab g o d n p :=
  ⟨hk.heap h.a h1, hk.heap h.b h2, hk.heap h.p h3, hk.heap h.d h4, hk.heap h.n h5⟩
def ReadStep (w : World) (ab bb bc : Nat) (db : Nat → Nat) (pb : Nat → Nat → Nat) (fa : Option Addr) (fc : Nat) (O : Nat → Prop) (co : Nat) (A : Nd) (op : Int) (d n p : Nat) (e : Ending) (w' : World) : Prop :=
  e = .returned (.int .i64 0) ∧ ∃ L' g c, NdB w' ab (A.readW op d n p).2 bb bc db pb fa fc L' O ∧ w'.heap[co]? = some (.cells #[.slice (some ⟨g, 0, none⟩) A.S.bytes c] 22 (0, 0)) ∧ NumRow .u8 w' 5 (some ⟨g, 0, none⟩) c (A.readSt op d n p).1 ∧ Keeps (fun k => O k ∨ k = co) w w' ∧ w.heap.size ≤ g
def Nd.mid (A : Nd) (F : List Ft) (fl : Int) : Nd := { A with F := F, flips := fl }
theorem pgBytes_len {A : Nd} (h : A.Ok) (d n p : Nat) : (pgBytes A.S.bytes ((A.B d n).pg p)).length = A.S.bytes := by
  cases hq : (A.B d n).pg p with
  | none => simp [pgBytes]
  | some l => exact h.pages d n p l hq
set_option maxHeartbeats 8000000 in
set_option maxRecDepth 100000 in
theorem read32 {ca cb cp cd cn co d n p : Nat} {op : Int} {v0 : Value} (h : NdB w ab A bb bc db pb fa fc L O) (hok : A.Ok) (hd : d < A.S.dies) (hn : n < A.S.blocks) (hp : p < A.S.pages)
    (hB : RdBox w ca cb cp cd cn ab (db d) (n * 3) d n p) (hco : w.heap[co]? = some (.cells #[v0] 22 (0, 0))) (na : ¬ O ca) (nb : ¬ O cb) (np : ¬ O cp) (nd : ¬ O cd) (nn : ¬ O cn) (no : ¬ O co) :
    Calls Try.prog 32 #[.int .i64 op, .pointer (some ⟨ca, 0, none⟩), .pointer (some ⟨cb, 0, none⟩), .pointer (some ⟨cp, 0, none⟩), .pointer (some ⟨co, 0, none⟩), .pointer (some ⟨cd, 0, none⟩), .pointer (some ⟨cn, 0, none⟩)] w (ReadStep w ab bb bc db pb fa fc O co A op d n p) := by
  have hP := Lib.hid (page33 h hok hd hn hp)
  have x1 := cell_of_heap hB.a 0
  have x2 := cell_of_heap hB.b 0
  have x3 := cell_of_heap hB.p 0
  have hlen := pgBytes_len hok d n p
  have n1 := hok.S.n1
  have n2 := hok.S.n2
  have hL := h.fls
  have hlF : L.length = A.F.length := by rw [← hL, List.length_map]
  have hL2 : L.length ≤ 2000 := by rw [hlF]; exact hok.len
  have h' := Lib.hid h
  have hok' := Lib.hid hok
  have hB' := Lib.hid hB
  have hco' := Lib.hid hco
  have hno := Lib.hid (show ¬ O ca ∧ ¬ O cp ∧ ¬ O cd ∧ ¬ O cn ∧ ¬ O co ∧ ca ≠ co ∧ cp ≠ co ∧ cd ≠ co ∧ cn ≠ co from ⟨na, np, nd, nn, no, cells_ne hB.a hco (by decide), cells_ne hB.p hco (by decide), cells_ne hB.d hco (by decide), cells_ne hB.n hco (by decide)⟩)
  obtain ⟨st0, hst0⟩ : ∃ st : List Int × Int, (pgBytes A.S.bytes ((A.B d n).pg p), A.flips) = st := ⟨_, rfl⟩
  have hst0' := Lib.hid hst0
  have hls0 := Lib.hid (show st0.1.length = A.S.bytes from by rw [← hst0]; exact hlen)
  have hlF' := Lib.hid hlF
  have hL' := Lib.hid hL
  clear h hok hB hco na nb np nd nn no hlen hst0 hlF hL
  go_enter Try.func32, Try.ntmps32
  go_wp2_with fail
  refine (hP.out).mono ?_
  rintro e w1 ⟨g, c, rfl, hr1, hk1, hg1⟩
  have c0 := cell_of_heap (hk1.heap hco'.out (fun h => h)) 0
  have f0 := frozen_of_heap (hk1.heap hco'.out (fun h => h)) 0
  simp only [List.getElem?_toArray, List.getElem?_cons_zero] at c0
  have hco2 := heap_setCell_same (hk1.heap hco'.out (fun h => h)) 0 (.slice (some ⟨g, 0, none⟩) A.S.bytes c)
  have k12 := (hk1.mono (T := (· = co)) (fun _ h => h.elim)).trans ((Keeps.refl (· = co) w1).setCell (p := ⟨co, 0, none⟩) (.inl rfl) (.slice (some ⟨g, 0, none⟩) A.S.bytes c))
  have hB2 := hB'.out.keeps k12 hno.out.2.2.2.2.2.1 (fun e => cells_ne hB'.out.b hco'.out (by decide) e) hno.out.2.2.2.2.2.2.1 hno.out.2.2.2.2.2.2.2.1 hno.out.2.2.2.2.2.2.2.2
  have hN2 := h'.out.keeps k12 (fun k hk e => hno.out.2.2.2.2.1 (by rw [← e]; exact hk))
  have hgc : g ≠ co := by have := lt_of_heap hco'.out; omega
  have hr2 := hr1.keeps ((Keeps.refl (· = co) w1).setCell (p := ⟨co, 0, none⟩) (.inl rfl) (.slice (some ⟨g, 0, none⟩) A.S.bytes c)) (fun q hq => by simp [blk] at hq; rw [← hq]; exact hgc)
  have c5 := hN2.cell 5
  simp only [ndCells, List.getElem?_toArray, List.getElem?_cons_zero, List.getElem?_cons_succ] at c5
  have y1 := cell_of_heap hB2.a 0
  have hco2' := Lib.hid hco2
  have k12' := Lib.hid k12
  have hB2' := Lib.hid hB2
  have hN2' := Lib.hid hN2
  have hr2' := Lib.hid hr2
  have hg1' := Lib.hid (show w.heap.size ≤ g ∧ g ≠ co ∧ (∀ k, O k → k ≠ g) ∧ ca ≠ g ∧ cp ≠ g ∧ cd ≠ g ∧ cn ≠ g from ⟨hg1, hgc, fun k hk e => by have := h'.out.lt k hk; omega, by have := lt_of_heap hB'.out.a; omega, by have := lt_of_heap hB'.out.p; omega, by have := lt_of_heap hB'.out.d; omega, by have := lt_of_heap hB'.out.n; omega⟩)
  clear hr1 hk1 hg1 hco2 k12 hB2 hN2 hr2 hgc x2 x3 x1 hP
  go_wp2_with fail
  obtain ⟨w2, hw2⟩ : ∃ w2, w1.setCell ⟨co, 0, none⟩ (.slice (some ⟨g, 0, none⟩) A.S.bytes c) = w2 := ⟨_, rfl⟩
  rw [hw2] at hco2' k12' hB2' hN2' hr2' ⊢
  clear hw2 c5 y1 c0 f0
  have hbox := Lib.hid (fun (W : World) (hW : Keeps (fun j => O j ∨ j = g) w2 W) => (show W.cell? ⟨ca, 0, none⟩ = some (.pointer (some ⟨ab, 0, none⟩)) ∧ W.cell? ⟨cp, 0, none⟩ = some (.int .i64 (p : Nat)) ∧ W.cell? ⟨cd, 0, none⟩ = some (.int .i64 (d : Nat)) ∧ W.cell? ⟨cn, 0, none⟩ = some (.int .i64 (n : Nat)) ∧ W.cell? ⟨co, 0, none⟩ = some (.slice (some ⟨g, 0, none⟩) A.S.bytes c) from
    ⟨hW.cell (cell_of_heap hB2'.out.a 0) (fun e => e.elim hno.out.1 hg1'.out.2.2.2.1), hW.cell (cell_of_heap hB2'.out.p 0) (fun e => e.elim hno.out.2.1 hg1'.out.2.2.2.2.1), hW.cell (cell_of_heap hB2'.out.d 0) (fun e => e.elim hno.out.2.2.1 hg1'.out.2.2.2.2.2.1), hW.cell (cell_of_heap hB2'.out.n 0) (fun e => e.elim hno.out.2.2.2.1 hg1'.out.2.2.2.2.2.2), hW.cell (cell_of_heap hco2'.out 0) (fun e => e.elim hno.out.2.2.2.2.1 (fun h => hg1'.out.2.1 h.symm))⟩))
  go_loopw [22] (fun i wr => ∃ (k : Nat) (Lk : List Fx), k ≤ L.length ∧ i = .int .i64 k ∧ NdB wr ab (A.mid (ticked op d n p k A.F) (faultsTo op d n p st0 A.F k).2) bb bc db pb fa fc Lk O ∧ NumRow .u8 wr 5 (some ⟨g, 0, none⟩) c (faultsTo op d n p st0 A.F k).1 ∧ Keeps (fun j => O j ∨ j = g) w2 wr) (fun i _ => L.length - (intOf i).toNat)
  case atStart => exact ⟨0, L, Nat.zero_le _, rfl, by rw [ticked_zero, faultsTo_zero, ← hst0'.out]; exact hN2'.out, by rw [faultsTo_zero, ← hst0'.out]; exact hr2'.out, Keeps.refl _ _⟩
  case round =>
    obtain ⟨k, Lk, hk, rfl, hN, hR, hK⟩ := hrel
    by_cases hlt : k < L.length
    · obtain ⟨f, hf⟩ : ∃ f, A.F[k]? = some f := ⟨A.F[k]'(by rw [← hlF'.out]; exact hlt), List.getElem?_eq_getElem _⟩
      obtain ⟨x, hx, hxf⟩ : ∃ x, Lk[k]? = some x ∧ x.f = f := by
        have h1 : (Lk.map (·.f))[k]? = some f := by rw [hN.fls]; show (ticked op d n p k A.F)[k]? = _; rw [ticked_at (by rw [← hlF'.out]; exact hlt), hf]
        rw [List.getElem?_map] at h1
        cases hq : Lk[k]? with
        | none => rw [hq] at h1; cases h1
        | some x => rw [hq] at h1; simp at h1; exact ⟨x, rfl, h1⟩
      obtain ⟨fb, hfa, hfl, hff, hc⟩ := hN.fts.cell encX_len hx
      have e0 := hc 0 _ (by decide) rfl
      have e1 := hc 1 _ (by decide) rfl
      have e2 := hc 2 _ (by decide) rfl
      have e3 := hc 3 _ (by decide) rfl
      have e4 := hc 4 _ (by decide) rfl
      have e7 := hc 7 _ (by decide) rfl
      have e8 := hc 8 _ (by decide) rfl
      rw [Nat.add_zero] at e0
      rw [hxf] at e0 e1 e2 e3 e4 e7 e8
      have c5 := hN.cell 5
      simp only [ndCells, List.getElem?_toArray, List.getElem?_cons_zero, List.getElem?_cons_succ] at c5
      have hll : Lk.length = L.length := by
        have h1 := congrArg List.length hN.fls
        rw [List.length_map] at h1
        rw [h1, hlF'.out]; exact ticked_len _ _ _ _ _ _
      rw [hll, hfa] at c5
      obtain ⟨z1, z3, z4, z5, z6⟩ := hbox.out wr hK
      have hf8 := hff (k * 9 + 8)
      have hN' := Lib.hid hN
      have hR' := Lib.hid hR
      have hK' := Lib.hid hK
      have hf' := Lib.hid hf
      have hx' := Lib.hid (And.intro hx (And.intro hxf hfa))
      have hfO := Lib.hid (hok'.out.F f (List.mem_of_getElem? hf))
      have hfl := hfO.out.left
      clear hN hR hK hf hx hxf hc hff hfa hll
      rcases now_cases f op d n p with ⟨hnow, h1⟩ | ⟨hnow, h1, h2⟩ | ⟨hnow, h1, h2, h3⟩ | ⟨hnow, h1, h2, h3, h4⟩ | ⟨hnow, h1, h2, h3, h4, h5⟩ | ⟨hnow, h1, h2, h3, h4, h5, h6⟩ | ⟨hnow, h1, h2, h3, h4, h5, h6⟩
      · have hnow' := Lib.hid hnow
        clear hnow
        go_wp2_with fail
        go_quiet (fail)
        go_wp2_with fail
        go_roundw
        case rel => exact ⟨k + 1, Lk, by omega, by go_num, by rw [ticked_skip hf'.out hnow'.out, faultsTo_skip hf'.out hnow'.out]; exact hN'.out.keeps ((Keeps.refl Nil wr).drewN _) (fun _ _ h => h), by rw [faultsTo_skip hf'.out hnow'.out]; exact hR'.out.keeps ((Keeps.refl Nil wr).drewN _) (fun _ _ h => h), hK'.out.drewN _⟩
        case measure => simp [intOf]; omega
      · have hnow' := Lib.hid hnow
        clear hnow
        go_wp2_with fail
        go_quiet (fail)
        go_wp2_with fail
        go_roundw
        case rel => exact ⟨k + 1, Lk, by omega, by go_num, by rw [ticked_skip hf'.out hnow'.out, faultsTo_skip hf'.out hnow'.out]; exact hN'.out.keeps ((Keeps.refl Nil wr).drewN _) (fun _ _ h => h), by rw [faultsTo_skip hf'.out hnow'.out]; exact hR'.out.keeps ((Keeps.refl Nil wr).drewN _) (fun _ _ h => h), hK'.out.drewN _⟩
        case measure => simp [intOf]; omega
      · have hnow' := Lib.hid hnow
        clear hnow
        have h3' := left_zero h3
        go_wp2_with fail
        go_quiet (fail)
        go_wp2_with fail
        go_roundw
        case rel => exact ⟨k + 1, Lk, by omega, by go_num, by rw [ticked_skip hf'.out hnow'.out, faultsTo_skip hf'.out hnow'.out]; exact hN'.out.keeps ((Keeps.refl Nil wr).drewN _) (fun _ _ h => h), by rw [faultsTo_skip hf'.out hnow'.out]; exact hR'.out.keeps ((Keeps.refl Nil wr).drewN _) (fun _ _ h => h), hK'.out.drewN _⟩
        case measure => simp [intOf]; omega
      · have hnow' := Lib.hid hnow
        clear hnow
        have h3' := left_zero h3
        go_wp2_with fail
        go_quiet (fail)
        go_wp2_with fail
        go_roundw
        case rel => exact ⟨k + 1, Lk, by omega, by go_num, by rw [ticked_skip hf'.out hnow'.out, faultsTo_skip hf'.out hnow'.out]; exact hN'.out.keeps ((Keeps.refl Nil wr).drewN _) (fun _ _ h => h), by rw [faultsTo_skip hf'.out hnow'.out]; exact hR'.out.keeps ((Keeps.refl Nil wr).drewN _) (fun _ _ h => h), hK'.out.drewN _⟩
        case measure => simp [intOf]; omega
      · have hnow' := Lib.hid hnow
        clear hnow
        have h3' := left_zero h3
        go_wp2_with fail
        go_quiet (fail)
        go_wp2_with fail
        go_roundw
        case rel => exact ⟨k + 1, Lk, by omega, by go_num, by rw [ticked_skip hf'.out hnow'.out, faultsTo_skip hf'.out hnow'.out]; exact hN'.out.keeps ((Keeps.refl Nil wr).drewN _) (fun _ _ h => h), by rw [faultsTo_skip hf'.out hnow'.out]; exact hR'.out.keeps ((Keeps.refl Nil wr).drewN _) (fun _ _ h => h), hK'.out.drewN _⟩
        case measure => simp [intOf]; omega
      · have hnow' := Lib.hid hnow
        clear hnow
        have h3' := left_zero h3
        go_wp2_with fail
        go_quiet (fail)
        go_wp2_with fail
        go_roundw
        case rel => exact ⟨k + 1, Lk, by omega, by go_num, by rw [ticked_skip hf'.out hnow'.out, faultsTo_skip hf'.out hnow'.out]; exact hN'.out.keeps ((Keeps.refl Nil wr).drewN _) (fun _ _ h => h), by rw [faultsTo_skip hf'.out hnow'.out]; exact hR'.out.keeps ((Keeps.refl Nil wr).drewN _) (fun _ _ h => h), hK'.out.drewN _⟩
        case measure => simp [intOf]; omega
      · have hnow' := Lib.hid hnow
        have h3' := left_zero h3
        have hl0 : 1 ≤ f.left := by
          have : ¬ f.left = 0 := by simpa using h3
          omega
        clear hnow
        go_wp2_with fail
        go_quiet (fail)
        go_wp2_with fail
        rw [show ((f.left : Nat) : Int) - 1 = ((f.left - 1 : Nat) : Int) from by omega]
        obtain ⟨hx, hxf, hfa⟩ := hx'.out
        have hkd := (Keeps.refl Nil wr).drewN nq
        have hE := (hN'.out.keeps hkd (fun _ _ h => h)).editF hfa hx (f.left - 1)
        have hOb : O fb := hN'.out.ownF fb (by rw [hfa]; rfl)
        have hset : (ticked op d n p k A.F).set k { x.f with left := f.left - 1 } = ticked op d n p (k + 1) A.F := by
          rw [← ticked_set hf'.out, hxf]
          have e : f.tick op d n p = { f with left := f.left - 1 } := if_pos hnow'.out
          rw [e]
        obtain ⟨st, hst⟩ : ∃ st, faultsTo op d n p st0 A.F k = st := ⟨_, rfl⟩
        have hstL := faultsTo_len op d n p st0 A.F k
        rw [hst, hls0.out] at hstL
        have hE1 := Lib.hid (show NdB ((wr.drewN nq).setCell ⟨fb, k * 9 + 8, none⟩ (.int .i64 ((f.left - 1 : Nat) : Int))) ab (A.mid (ticked op d n p (k + 1) A.F) st.2) bb bc db pb fa fc (Lk.set k { x with f := { x.f with left := f.left - 1 } }) O from by rw [← hset, ← hst]; exact hE)
        have hks := hkd.mono (T := fun j => O j ∨ j = g) (fun _ h => h.elim) |>.setCell (p := ⟨fb, k * 9 + 8, none⟩) (.inl (.inl hOb)) (.int .i64 ((f.left - 1 : Nat) : Int))
        have hR1 := Lib.hid (show NumRow .u8 ((wr.drewN nq).setCell ⟨fb, k * 9 + 8, none⟩ (.int .i64 ((f.left - 1 : Nat) : Int))) 5 (some ⟨g, 0, none⟩) c st.1 from by
          rw [← hst]
          exact (hR'.out.keeps hkd (fun _ _ h => h)).keeps ((Keeps.refl (· = fb) _).setCell (p := ⟨fb, k * 9 + 8, none⟩) (.inl rfl) _) (fun q hq e => by simp [blk] at hq; exact hg1'.out.2.2.1 fb hOb (by rw [← e, hq])))
        have hK1 := Lib.hid (hK'.out.trans hks)
        have hx1 := Lib.hid (show ({ x with f := { x.f with left := f.left - 1 } } : Fx) ∈ Lk.set k { x with f := { x.f with left := f.left - 1 } } from List.mem_of_getElem? (i := k) (by rw [List.getElem?_set, if_pos rfl, if_pos (List.getElem?_eq_some_iff.1 hx).1]))
        have hxf' := Lib.hid hxf
        have hst' := Lib.hid hst
        generalize (wr.drewN nq).setCell ⟨fb, k * 9 + 8, none⟩ (.int .i64 ((f.left - 1 : Nat) : Int)) = w5 at hE1 hR1 hK1 ⊢
        generalize Lk.set k { x with f := { x.f with left := f.left - 1 } } = L1 at hE1 hx1
        have hbl := hfO.out.blen
        clear hE hset hst hks hkd hx hxf hfa e0 e1 e2 e3 e4 e7 e8 c5 z1 z3 z4 z5 z6 hf8 h1 h2 h3 h4 h5 h6 h3' hl0
        obtain ⟨xa, hxa⟩ : ∃ a, x.a = a := ⟨_, rfl⟩
        rw [hxa]
        have hxa' := Lib.hid hxa
        clear hxa
        go_loopw [93] (fun i wz => ∃ q : Nat, q ≤ f.bits.length ∧ i = .int .i64 q ∧ NdB wz ab (A.mid (ticked op d n p (k + 1) A.F) (bitsTo st f.bits q).2) bb bc db pb fa fc L1 O ∧ NumRow .u8 wz 5 (some ⟨g, 0, none⟩) c (bitsTo st f.bits q).1 ∧ Keeps (fun j => O j ∨ j = g) w2 wz) (fun i _ => f.bits.length - (intOf i).toNat)
        case atStart => exact ⟨0, Nat.zero_le _, rfl, hE1.out, hR1.out, hK1.out⟩
        case round =>
          obtain ⟨q, hq, rfl, hM, hMR, hMK⟩ := hrel
          by_cases hql : q < f.bits.length
          · have hbx := (hM.bits _ hx1.out).1
            rw [show ({ x with f := { x.f with left := f.left - 1 } } : Fx).f.bits = f.bits from by rw [← hxf'.out]] at hbx
            obtain ⟨gb, hga, _, cb0, _⟩ := hbx.cell hql
            obtain ⟨kk, hkk⟩ : ∃ kk, gi f.bits q = kk := ⟨_, rfl⟩
            obtain ⟨kb0, kb1⟩ := hfO.out.bits kk (by rw [← hkk, gi_eq hql]; exact List.getElem_mem _)
            rw [hkk] at cb0
            obtain ⟨j, hj⟩ : ∃ j : Nat, kk / 8 = (j : Int) := ⟨(kk / 8).toNat, by omega⟩
            obtain ⟨r, hr⟩ : ∃ r : Nat, kk % 8 = (r : Int) := ⟨(kk % 8).toNat, by omega⟩
            have hjb : j < A.S.bytes := by omega
            have hr8 : r < 8 := by omega
            have hML := bitsTo_len st f.bits q hq
            rw [hstL] at hML
            obtain ⟨g', hg', hgl, cg, fg⟩ := hMR.cell (q := j) (by rw [hML]; exact hjb)
            cases hg'
            obtain ⟨y1, _, _, _, y6⟩ := hbox.out wr hMK
            have hd8 : kk.tdiv 8 = (j : Int) := by rw [Int.tdiv_eq_ediv_of_nonneg kb0]; exact hj
            have hm8 : kk.tmod 8 = (r : Int) := by rw [Int.tmod_eq_emod_of_nonneg kb0]; exact hr
            have hwj : IntKind.i64.wrap (j : Int) = (j : Int) := by rw [IntKind.wrap_i64]; omega
            have hwr : IntKind.i64.wrap (r : Int) = (r : Int) := by rw [IntKind.wrap_i64]; omega
            obtain ⟨v5, hv5⟩ : ∃ v5, bits .xor .u8 (gi (bitsTo st f.bits q).1 j) (128 / 2 ^ r) = v5 := ⟨_, rfl⟩
            obtain ⟨W5, hW5⟩ : ∃ W, wr.setCell ⟨g, j, none⟩ (.int .u8 v5) = W := ⟨_, rfl⟩
            obtain ⟨fl, hfl5⟩ : ∃ z, (bitsTo st f.bits q).2 = z := ⟨_, rfl⟩
            have kS := (Keeps.refl (· = g) wr).setCell (p := ⟨g, j, none⟩) (.inl rfl) (.int .u8 v5)
            have hM5 := hM.keeps kS (fun k hk e => hg1'.out.2.2.1 k hk e)
            have hMR5 := hMR.set j v5
            have hMK5 := hMK.setCell (p := ⟨g, j, none⟩) (.inl (.inr rfl)) (.int .u8 v5)
            have yW := (hbox.out _ hMK5).1
            have c11 := hM5.cell 11
            have f11 := frozen_of_heap hM5.blk 11
            simp only [ndCells, List.getElem?_toArray, List.getElem?_cons_zero, List.getElem?_cons_succ] at c11
            rw [show (A.mid (ticked op d n p (k + 1) A.F) (bitsTo st f.bits q).2).flips = (bitsTo st f.bits q).2 from rfl, hfl5] at c11
            rw [hfl5] at hM5
            rw [hW5] at hM5 hMR5 hMK5 yW c11 f11
            have hAdd := Lib.hid (add34 (w := W5.drew) (b := ab) (o := 11) (x := fl) (s := wrap64 (fl + 1)) c11 f11 rfl)
            have hst1 := Lib.hid (show bitsTo st f.bits (q + 1) = ((bitsTo st f.bits q).1.set j v5, wrap64 (fl + 1)) from by
              rw [bitsTo_step hql, hkk]
              unfold flipB turnB
              rw [hj, hr, Int.toNat_natCast, Int.toNat_natCast, hv5, hfl5])
            have hM5' := Lib.hid hM5
            have hMR5' := Lib.hid hMR5
            have hMK5' := Lib.hid hMK5
            have hv5' := Lib.hid hv5
            have hW5' := Lib.hid hW5
            rw [← hW5, ← hv5] at yW
            clear hM5 hMR5 hMK5 hv5 hW5 kS c11 f11 hfl5
            have hkk' := Lib.hid hkk
            obtain rfl : xa = some ⟨gb, 0, none⟩ := hxa'.out.symm.trans hga
            clear hM hMR hMK hbx hkk hML hga hj hr
            go_wp2_with fail
            go_still_tail 10, (by kernel_rfl)
            change wpList _ _ _ _ _ wr.drew
            go_wp2_with fail
            rw [hv5'.out, hW5'.out]
            refine (hAdd.out).mono ?_
            rintro e w6 ⟨rfl, hw6⟩
            have hN6 := (hM5'.out.keeps (Keeps.refl Nil W5).drew (fun _ _ h => h)).editA (A' := A.mid (ticked op d n p (k + 1) A.F) (wrap64 (fl + 1))) (w' := w6) (by rw [hw6]; exact (Keeps.refl (· = ab) W5.drew).setCell (p := ⟨ab, 11, none⟩) (.inl rfl) _) (by rw [hw6]; exact heap_setCell_same hM5'.out.blk 11 _) rfl rfl rfl
            have hR6 := hMR5'.out.keeps (S := fun x => x = ab) (w' := w6) (by rw [hw6]; exact ((Keeps.refl (· = ab) W5).drew.setCell (p := ⟨ab, 11, none⟩) (.inl rfl) _)) (fun q hq e => by simp [blk] at hq; exact hg1'.out.2.2.1 ab hN6.ownA (by rw [← e, hq]))
            have hK6 := hMK5'.out.drew.setCell (p := ⟨ab, 11, none⟩) (.inl (.inl hN6.ownA)) (.int .i64 (wrap64 (fl + 1)))
            rw [← hw6] at hK6
            have hN6' := Lib.hid hN6
            have hR6' := Lib.hid hR6
            have hK6' := Lib.hid hK6
            clear hw6 hN6 hR6 hK6 hd8 hm8 hwj hwr yW
            go_wp2_with fail
            go_roundw
            case rel => exact ⟨q + 1, by omega, by go_num, by rw [hst1.out]; exact hN6'.out, by rw [hst1.out]; exact hR6'.out, hK6'.out⟩
            case measure => simp [intOf]; omega
          · have hqe : q = f.bits.length := by omega
            subst hqe
            have hM' := Lib.hid hM
            have hMR' := Lib.hid hMR
            have hMK' := Lib.hid hMK
            have hend := Lib.hid (faultsTo_turn (st := st0) hf'.out hnow'.out)
            clear hM hMR hMK
            go_wp2_with fail
            go_roundw
            case rel => exact ⟨k + 1, L1, by omega, by go_num, by rw [hend.out, hst'.out]; exact hM'.out, by rw [hend.out, hst'.out]; exact hMR'.out, hMK'.out⟩
            case measure => simp [intOf]; omega
    · have hkl : k = L.length := by omega
      subst hkl
      have hN' := Lib.hid hN
      have hR' := Lib.hid hR
      have hK' := Lib.hid hK
      clear hN hR hK
      go_wp2_with fail
      go_ret
      have e1 := ticked_all op d n p A.F
      have e2 := faultsTo_all op d n p st0 A.F
      rw [← hlF'.out] at e1 e2
      have hN9 := hN'.out
      have hR9 := hR'.out
      rw [e1, e2, ← hst0'.out] at hN9
      rw [e2, ← hst0'.out] at hR9
      refine ⟨rfl, Lk, g, c, hN9, hK'.out.heap hco2'.out (fun e => e.elim hno.out.2.2.2.2.1 (fun h => hg1'.out.2.1 h.symm)), hR9, ?_, hg1'.out.1⟩
      exact (k12'.out.mono (fun j hj => .inr hj)).trans' hK'.out (fun j hj => hj.elim (fun h => .inl (.inl h)) (fun h => .inr (by rw [h]; exact hg1'.out.1)))
end Go.Proofs.Ytglpacdenfoicaa
