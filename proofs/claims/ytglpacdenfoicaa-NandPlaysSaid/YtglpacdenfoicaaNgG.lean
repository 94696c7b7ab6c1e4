/- the document's array: Read (printed by Nd/mkNgG.py, tools/genR.py) -/
import Derived.Test.YtglpacdenfoicaaNgF
import Derived.StillTailTactics
namespace Go.Proofs.Ytglpacdenfoicaa
open Go.RowKit

variable {w wr w' : World} {P : RfP} {O O' : Nat → Prop} {A A' A0 : Nd}
/-- a row of the call's own is written -/
theorem RfI.far {g : Nat} (h0 : RfQ w P A0 O) (h : RfI w P O wr A O') (hk : Keeps (· = g) wr w') (hg : w.heap.size ≤ g) (hgO : ¬ O' g) : RfI w P O w' A O' := by
  refine ⟨RfB.keeps h.1 hk (fun k hk2 e => hgO (by rw [← e]; exact hk2)) (fun x hx hl b hb e => ?_), h.2.1.trans' hk (fun j hj => .inr (by rw [hj]; exact hg)), h.2.2⟩
  obtain ⟨b2, off, e2, hc⟩ := (RfB.bits h0 x hx).1 0 hl
  rw [e2] at hb
  cases hb
  have h3 := lt_of_cell hc
  change b2 = g at e
  omega
/-- what a read leaves -/
def RrRes (w : World) (P : RfP) (O : Nat → Prop) (c : Int) (out : Option (List Int)) (A' : Nd) (e : Ending) (w' : World) : Prop :=
  ∃ v, e = .returned (.tuple #[v, .int .i64 c]) ∧ ∃ O', RfI w P O w' A' O' ∧ RdVal w w' O' v out
theorem left_cell {k : Nat} {f : Ft} (h : RfI w P O wr A O') (hf : A.F[k]? = some f) : ∃ g, P.la = some ⟨g, 0, none⟩ ∧ wr.cell? ⟨g, k, none⟩ = some (.int .i64 (f.left : Nat)) ∧ wr.frozen? ⟨g, k, none⟩ = false := by
  have hlt := (List.getElem?_eq_some_iff.1 hf).1
  obtain ⟨g, hg, _, h1, h2⟩ := (RfB.left h.1).cell (q := k) (by rw [List.length_map]; exact hlt)
  rw [gi_eq (by rw [List.length_map]; exact hlt), List.getElem_map, (List.getElem?_eq_some_iff.1 hf).2] at h1
  exact ⟨g, hg, h1, h2⟩
theorem read_step {g9 c9 ob : Nat} {co : Array Value} {F : List Ft} {fl : Int} {l : List Int} (hQ : RfQ w P A0 O) (h : RfI w P O wr (A.mid F fl) O) (hr : NumRow .u8 wr 5 (some ⟨g9, 0, none⟩) c9 l) (ho : wr.heap[ob]? = some (.cells co 33 (0, 0))) (hgw : w.heap.size ≤ g9) (hgO : ¬ O g9) (j : Nat) (v fl2 : Int) :
    RfI w P O ((wr.setCell ⟨g9, j, none⟩ (.int .u8 v)).setCell ⟨P.rb, 12, none⟩ (.int .i64 fl2)).drew (A.mid F fl2) O ∧ NumRow .u8 ((wr.setCell ⟨g9, j, none⟩ (.int .u8 v)).setCell ⟨P.rb, 12, none⟩ (.int .i64 fl2)).drew 5 (some ⟨g9, 0, none⟩) c9 (l.set j v) ∧
      ((wr.setCell ⟨g9, j, none⟩ (.int .u8 v)).setCell ⟨P.rb, 12, none⟩ (.int .i64 fl2)).drew.heap[ob]? = some (.cells co 33 (0, 0)) := by
  have k1 := (Keeps.refl (· = g9) wr).setCell (p := ⟨g9, j, none⟩) (.inl rfl) (.int .u8 v)
  have h1 := RfI.far hQ h k1 hgw hgO
  have r1 := hr.set j v
  obtain ⟨c5, hc5⟩ : ∃ c, wr.heap[g9]? = some (.cells c 5 (0, 0)) := RowAt.heap hr rfl
  have o1 := k1.heap ho (cells_ne ho hc5 (by decide))
  generalize wr.setCell ⟨g9, j, none⟩ (.int .u8 v) = w1 at h1 r1 o1
  have k2 := (Keeps.refl (· = P.rb) w1).setCell (p := ⟨P.rb, 12, none⟩) (.inl rfl) (.int .i64 fl2)
  have h2 := h1.cells (A' := A.mid F fl2) k2 (by rw [heap_setCell_same h1.blk]; rfl) rfl rfl rfl
  have r2 := r1.keeps k2 (fun g hg e => by simp [blk] at hg; subst hg; exact hgO (by rw [e]; exact h1.own))
  have o2 := k2.heap o1 (cells_ne o1 h1.blk (by decide))
  exact ⟨h2.nil (Keeps.refl Nil _).drew, r2.keeps (Keeps.refl Nil _).drew (fun _ _ h => h), o2⟩
theorem now_cases2 (f : Ft) (op : Nat) (d n p : Nat) :
    (f.now op d n p = false ∧ (f.kind == 1) = false) ∨
    (f.now op d n p = false ∧ (f.kind == 1) = true ∧ decide (f.time ≤ (op : Int)) = false) ∨
    (f.now op d n p = false ∧ (f.kind == 1) = true ∧ decide (f.time ≤ (op : Int)) = true ∧ f.left = 0) ∨
    (f.now op d n p = false ∧ (f.kind == 1) = true ∧ decide (f.time ≤ (op : Int)) = true ∧ 0 < f.left ∧ (f.die == (d : Int)) = false) ∨
    (f.now op d n p = false ∧ (f.kind == 1) = true ∧ decide (f.time ≤ (op : Int)) = true ∧ 0 < f.left ∧ (f.die == (d : Int)) = true ∧ (f.block == (n : Int)) = false) ∨
    (f.now op d n p = false ∧ (f.kind == 1) = true ∧ decide (f.time ≤ (op : Int)) = true ∧ 0 < f.left ∧ (f.die == (d : Int)) = true ∧ (f.block == (n : Int)) = true ∧ (f.page == (p : Int)) = false) ∨
    (f.now op d n p = true ∧ (f.kind == 1) = true ∧ decide (f.time ≤ (op : Int)) = true ∧ 0 < f.left ∧ (f.die == (d : Int)) = true ∧ (f.block == (n : Int)) = true ∧ (f.page == (p : Int)) = true) := by
  have hd : decide ((op : Int) < f.time) = !decide (f.time ≤ (op : Int)) := by
    by_cases h : f.time ≤ (op : Int)
    · rw [decide_eq_true h, decide_eq_false (by omega)]; rfl
    · rw [decide_eq_false h, decide_eq_true (by omega)]; rfl
  unfold Ft.now
  rw [hd]
  unfold bne
  by_cases hl : f.left = 0
  · rw [show (f.left == 0) = true by simpa using hl]
    cases f.kind == 1 <;> cases decide (f.time ≤ (op : Int)) <;> simp [hl]
  · rw [show (f.left == 0) = false by simpa using hl]
    have : 0 < f.left := by omega
    cases f.kind == 1 <;> cases decide (f.time ≤ (op : Int)) <;> cases f.die == (d : Int) <;> cases f.block == (n : Int) <;> cases f.page == (p : Int) <;> simp [this]
theorem bare_eq {f g : Ft} (h : f.bare = g.bare) : f.kind = g.kind ∧ f.time = g.time ∧ f.die = g.die ∧ f.block = g.block ∧ f.page = g.page ∧ f.bits = g.bits := by
  unfold Ft.bare at h
  simp only [Ft.mk.injEq] at h
  exact ⟨h.1, h.2.1, h.2.2.1, h.2.2.2.1, h.2.2.2.2.1, h.2.2.2.2.2.2.2.1⟩
set_option maxHeartbeats 16000000 in
set_option maxRecDepth 100000 in
theorem read47 {d n p b : Nat} (h : RfQ w P A O) (hg : A.Good b) (hb : b ≤ 1000000) (hoff : A.off = false) (hd : d < A.S.dies) (hn : n < A.S.blocks) (hp : p < A.S.pages) :
    Calls Try.prog 47 #[.pointer (some ⟨P.rb, 0, none⟩), .int .i64 (d : Nat), .int .i64 (n : Nat), .int .i64 (p : Nat)] w (RrRes w P O (A.read d n p).1 (A.readOut d n p) (A.read d n p).2) := by
  have hLe : P.L.length = A.F.length := by
    have h1 := congrArg List.length (RfB.fls h)
    simpa only [List.length_map] using h1
  have hL : P.L.length ≤ 2000 := by have := hg.ok.len; omega
  have hIn := Lib.hid (in65 h d n)
  rw [show inAt A.S d n = true by unfold inAt; simp; omega] at hIn
  have c7 := RfB.cell h 7
  have c2 := RfB.cell h 2
  simp only [rfCells, List.getElem?_toArray, List.getElem?_cons_zero, List.getElem?_cons_succ] at c7 c2
  rw [hoff] at c7
  have hQ := Lib.hid h
  have hI0 := Lib.hid (RfI.begin h)
  have hg' := Lib.hid hg
  have hd' := Lib.hid hd
  have hn' := Lib.hid hn
  have hp' := Lib.hid hp
  have hLe' := Lib.hid hLe
  have hops := hg.lt.ops
  have hrds := hg.lt.reads
  have hcts := hg.lt.cuts
  have hpz : ¬ ((p : Int) < 0) := by omega
  have hpl : (p : Int) < (A.S.pages : Int) := by omega
  obtain ⟨p1, p2, p3⟩ := (show A.S.pages ≤ 64 ∧ A.S.bytes ≤ 4096 ∧ 1 ≤ A.S.bytes from ⟨hg.ok.S.p2, hg.ok.S.n2, hg.ok.S.n1⟩)
  have hB := Lib.hid (begin66I (RfI.begin h) hops hb)
  clear h hg hd hn hLe
  go_enter Try.func47, Try.ntmps47
  go_wp2_with fail
  refine (hIn.out).mono ?_
  rintro e w3 ⟨rfl, hw3⟩
  rw [hw3]
  clear hw3 w3 hIn
  go_wp2_with fail
  refine (hB.out).mono ?_
  rintro e w3 ⟨rfl, hI3⟩
  have c9 := RfB.cell hI3.1 9
  have f9 := frozen_of_heap hI3.blk 9
  simp only [rfCells, List.getElem?_toArray, List.getElem?_cons_zero, List.getElem?_cons_succ] at c9
  have k4 : Keeps (· = P.rb) w3 (w3.setCell ⟨P.rb, 9, none⟩ (.int .i64 ((A.reads : Int) + 1))) := (Keeps.refl (· = P.rb) w3).setCell (.inl rfl) _
  have hI4 := hI3.cells (A' := A.tickR) k4 (by rw [heap_setCell_same hI3.blk]; rfl) rfl rfl rfl
  obtain ⟨w4, hw4⟩ : ∃ w4, w3.setCell ⟨P.rb, 9, none⟩ (.int .i64 ((A.reads : Int) + 1)) = w4 := ⟨_, rfl⟩
  rw [hw4] at hI4
  have hI4' := Lib.hid hI4
  have hw4' := Lib.hid hw4
  have hCt := Lib.hid (cut67 hI4.1 hL (A.ops : Int))
  have hSt := Lib.hid (struck68 hI4.1 hL (A.ops : Int) 4 d n)
  rw [show A.tickR.cut (A.ops : Int) = A.cut A.ops from rfl] at hCt
  rw [struck_die _ _ _ _ 0, show A.tickR.struck (A.ops : Int) 4 d 0 = A.dead d from rfl] at hSt
  clear hI3 hI4 hw4 hB k4 hI0
  go_upto_region 8 with (fail)
  rw [hw4'.out]
  clear c9 f9 hw4' w3 c7 c2
  obtain ⟨ct, hct⟩ : ∃ ct, A.cut A.ops = ct := ⟨_, rfl⟩
  obtain ⟨dd, hdd⟩ : ∃ dd, A.dead d = dd := ⟨_, rfl⟩
  rw [hct] at hCt
  rw [hdd] at hSt
  have hdd' := Lib.hid hdd
  have hct' := Lib.hid hct
  clear hct hdd
  cases ct with
  | some pt =>
    rw [show cutV (some pt) = #[.int .i64 pt, .bool true] from rfl] at hCt
    go_wp2_with fail
    refine (hCt.out).mono ?_
    rintro e w5 ⟨rfl, hw5⟩
    rw [hw5]
    clear hw5 w5 hCt
    go_wp2_with fail
    refine (hSt.out).mono ?_
    rintro e w5 ⟨rfl, k5⟩
    have hI5 := hI4'.out.nil k5
    have c7 := RfB.cell hI5.1 7
    have f7 := frozen_of_heap hI5.blk 7
    simp only [rfCells, List.getElem?_toArray, List.getElem?_cons_zero, List.getElem?_cons_succ] at c7
    have k6 : Keeps (· = P.rb) w5 ((w5.setCell ⟨P.rb, 7, none⟩ (.bool true)).setCell ⟨P.rb, 14, none⟩ (.int .i64 ((A.cuts : Int) + 1))) := ((Keeps.refl (· = P.rb) w5).setCell (p := ⟨P.rb, 7, none⟩) (.inl rfl) _).setCell (.inl rfl) _
    have hI6 := Lib.hid (hI5.cells (A' := { A.tickR with off := true, cuts := A.cuts + 1 }) k6 (by rw [heap_setCell_same (heap_setCell_same hI5.blk _ _)]; rfl) rfl rfl rfl)
    have c14b : (w5.setCell ⟨P.rb, 7, none⟩ (.bool true)).cell? ⟨P.rb, 14, none⟩ = some (.int .i64 (A.cuts : Nat)) := by rw [cell_of_heap (heap_setCell_same hI5.blk _ _)]; rfl
    have f14b : (w5.setCell ⟨P.rb, 7, none⟩ (.bool true)).frozen? ⟨P.rb, 14, none⟩ = false := frozen_of_heap (heap_setCell_same hI5.blk _ _) 14
    have hr1 : A.read d n p = (40, { A.tickR with off := true, cuts := A.cuts + 1 }) := by
      cases dd with
      | true => exact doOp_cutdie (A1 := A.tickR) hct'.out hdd'.out
      | false => exact doOp_cut (A1 := A.tickR) (part := fun A _ => A) hct'.out hdd'.out
    have hr2 : A.readOut d n p = none := by unfold Nd.readOut; rw [hct'.out]
    have hr1' := Lib.hid hr1
    have hr2' := Lib.hid hr2
    clear hr1 hr2 k5 hSt hI4' hI5 k6
    go_wp2_with fail
    go_ret2
    rw [hr1'.out, hr2'.out]
    exact ⟨_, rfl, _, hI6.out, rfl⟩
  | none =>
    rw [show cutV none = #[.int .i64 0, .bool false] from rfl] at hCt
    go_wp2_with fail
    refine (hCt.out).mono ?_
    rintro e w5 ⟨rfl, hw5⟩
    rw [hw5]
    clear hw5 w5 hCt
    go_wp2_with fail
    refine (hSt.out).mono ?_
    rintro e w5 ⟨rfl, k5⟩
    have hI5 := Lib.hid (hI4'.out.nil k5)
    clear k5 hSt hI4'
    cases dd with
    | true =>
      have hr1 : A.read d n p = (41, A.tickR) := doOp_die (A1 := A.tickR) hct'.out hdd'.out
      have hr2 : A.readOut d n p = none := by
        unfold Nd.readOut
        rw [hct'.out]
        show (if A.dead d = true then none else _) = none
        rw [hdd'.out]; rfl
      have hr1' := Lib.hid hr1
      have hr2' := Lib.hid hr2
      clear hr1 hr2
      go_wp2_with fail
      go_ret2
      rw [hr1'.out, hr2'.out]
      exact ⟨_, rfl, _, hI5.out, rfl⟩
    | false =>
      have hr1 : A.read d n p = (0, (Nd.readW A.ops d n p A.tickR).2) := doOp_ok (A1 := A.tickR) hct'.out hdd'.out rfl
      have hr2 : A.readOut d n p = some (A.readSt A.ops d n p).1 := by
        unfold Nd.readOut
        rw [hct'.out]
        show (if A.dead d = true then none else _) = _
        rw [hdd'.out]; rfl
      have hr1' := Lib.hid hr1
      have hr2' := Lib.hid hr2
      clear hr1 hr2
      obtain ⟨db, hF⟩ := RfB.flat hI5.out.1 hg'.out.ok.S hd'.out hn'.out
      obtain ⟨m, w1, w2, lt, c1, c4⟩ := hF
      have u0 := (RfB.cellD hI5.out.1 hd'.out hn'.out).1
      obtain ⟨xo, co, p0, _, xr, xl⟩ := hI5.out.pgs (p := p) hd'.out hn'.out hp'.out
      rw [show A.tickR.S.blocks = A.S.blocks from rfl] at m c1 w2 lt u0 p0
      rw [show A.tickR.S.dies = A.S.dies from rfl] at lt c4
      rw [show A.tickR.S.blocks = A.S.blocks from rfl] at c4
      rw [show A.tickR.S.pages = A.S.pages from rfl] at u0
      rw [show A.tickR.S.bytes = A.S.bytes from rfl] at p0 xr xl
      obtain ⟨ix, hix⟩ : ∃ ix, d * A.S.blocks + n = ix := ⟨_, rfl⟩
      obtain ⟨len, hlen⟩ : ∃ len, A.S.dies * A.S.blocks = len := ⟨_, rfl⟩
      obtain ⟨N, hN⟩ : ∃ N, A.S.blocks = N := ⟨_, rfl⟩
      rw [hix] at w2 lt u0 p0
      rw [hlen] at lt c4
      rw [hN] at m c1
      obtain ⟨l0, hl0⟩ : ∃ l0, pgBytes A.S.bytes ((A.B d n).pg p) = l0 := ⟨_, rfl⟩
      rw [show (A.tickR.B d n).pg p = (A.B d n).pg p from rfl, hl0] at xr xl
      have hl0' := Lib.hid hl0
      have xl' := Lib.hid xl
      have hxs := Lib.hid (show Src w5.drew (some ⟨xo, 0, none⟩) 1 A.S.bytes (l0.map (Value.int .u8)) by
        have := (xr.keeps (Keeps.refl Nil w5).drew (fun _ _ h => h)).nums.src (fun h => by cases h)
        rw [xl] at this
        exact this)
      have n1 := Lib.hid (show 0 + A.S.bytes ≤ maxLen by simp only [maxLen]; omega)
      have n2 := Lib.hid (show (0 + A.S.bytes) * 1 ≤ 140737488355328 by omega)
      obtain ⟨i5, hi5, hz50, hz51, hz52⟩ := info_parts Try.info5n
      have hS := Lib.hid (show ∀ W, Keeps Nil w5 W → W.cell? ⟨P.rb, 4, none⟩ = some (.slice (some ⟨P.bb, 0, none⟩) len P.bc) ∧ W.cell? ⟨P.rb, 1, none⟩ = some (.int .i64 (N : Nat)) ∧ W.cell? ⟨P.bb, ix * 3, none⟩ = some (.slice (some ⟨P.pb ix, 0, none⟩) A.S.pages (P.pc ix)) ∧ W.cell? ⟨P.pb ix, p, none⟩ = some (.slice (some ⟨xo, 0, none⟩) A.S.bytes co) from fun W hk => ⟨hk.cell c4 (fun h => h), hk.cell c1 (fun h => h), hk.cell u0 (fun h => h), hk.cell p0 (fun h => h)⟩)
      clear hl0 xr xl hix hlen hN c1 c4 u0 p0
      go_upto_region 17 with (fail)
      refine wp_region_held_drew (S := fun W => W.cell? ⟨P.rb, 4, none⟩ = some (.slice (some ⟨P.bb, 0, none⟩) len P.bc) ∧ W.cell? ⟨P.rb, 1, none⟩ = some (.int .i64 (N : Nat)) ∧ W.cell? ⟨P.bb, ix * 3, none⟩ = some (.slice (some ⟨P.pb ix, 0, none⟩) A.S.pages (P.pc ix)) ∧ W.cell? ⟨P.pb ix, p, none⟩ = some (.slice (some ⟨xo, 0, none⟩) A.S.bytes co)) (by kernel_rfl) ?q1a (fun hHeld => ?q1b)
      case q1a => (try dsimp only); first | exact hS.out _ (Keeps.refl Nil w5).drew | exact hS.out _ k9.out
      case q1b =>
        refine wpAnyH_take (i := 0) (oi := _) (v := ?q1_1v) rfl (by kernel_rfl) (by kernel_rfl) (by kernel_rfl) (fun _ _ _ h => h) (Or.inl ⟨by rfl, ?q1_1y⟩) (by assumption) ?q1_1r
        case q1_1y => (intro w0 hSw; (try dsimp only at hSw); go_simp; try (with_reducible rfl))
        case q1_1r =>
          simp only [Act.put, List.getElem_toArray, List.getElem_cons_zero, List.setIfInBounds_toArray, List.set_cons_zero, List.set_cons_succ]
          refine wpAnyH_take (i := 1) (oi := _) (v := ?q1_2v) rfl (by kernel_rfl) (by kernel_rfl) (by kernel_rfl) (fun _ _ _ h => h) (Or.inl ⟨by rfl, ?q1_2y⟩) (by assumption) ?q1_2r
          case q1_2y => (intro w0 hSw; (try dsimp only at hSw); go_simp; try (with_reducible rfl))
          case q1_2r =>
            simp only [Act.put, List.getElem_toArray, List.getElem_cons_succ, List.getElem_cons_zero, List.setIfInBounds_toArray, List.set_cons_zero, List.set_cons_succ]
            refine wpAnyH_take (i := 2) (oi := _) (v := ?q1_3v) rfl (by kernel_rfl) (by kernel_rfl) (by kernel_rfl) (fun _ _ _ h => h) (Or.inl ⟨by rfl, ?q1_3y⟩) (by assumption) ?q1_3r
            case q1_3y => (intro w0 hSw; (try dsimp only at hSw); go_simp; try (with_reducible rfl))
            case q1_3r =>
              simp only [Act.put, List.getElem_toArray, List.getElem_cons_succ, List.getElem_cons_zero, List.setIfInBounds_toArray, List.set_cons_zero, List.set_cons_succ]
              refine wpAnyH_take (i := 3) (oi := _) (v := ?q1_4v) rfl (by kernel_rfl) (by kernel_rfl) (by kernel_rfl) (fun _ _ _ h => h) (Or.inl ⟨by rfl, ?q1_4y⟩) (by assumption) ?q1_4r
              case q1_4y => (intro w0 hSw; (try dsimp only at hSw); go_simp; try (with_reducible rfl))
              case q1_4r =>
                simp only [Act.put, List.getElem_toArray, List.getElem_cons_succ, List.getElem_cons_zero, List.setIfInBounds_toArray, List.set_cons_zero, List.set_cons_succ]
                refine wpAnyH_take (i := 4) (oi := _) (v := ?q1_5v) rfl (by kernel_rfl) (by kernel_rfl) (by kernel_rfl) (fun _ _ _ h => h) (Or.inl ⟨by rfl, ?q1_5y⟩) (by assumption) ?q1_5r
                case q1_5y => (intro w0 hSw; (try dsimp only at hSw); go_simp; try (with_reducible rfl))
                case q1_5r =>
                  simp only [Act.put, List.getElem_toArray, List.getElem_cons_succ, List.getElem_cons_zero, List.setIfInBounds_toArray, List.set_cons_zero, List.set_cons_succ]
                  refine wpAnyH_take (i := 5) (oi := _) (v := ?q1_6v) rfl (by kernel_rfl) (by kernel_rfl) (by kernel_rfl) (fun _ _ _ h => h) (Or.inl ⟨by rfl, ?q1_6y⟩) (by assumption) ?q1_6r
                  case q1_6y => (intro w0 hSw; (try dsimp only at hSw); go_simp; try (with_reducible rfl))
                  case q1_6r =>
                    simp only [Act.put, List.getElem_toArray, List.getElem_cons_succ, List.getElem_cons_zero, List.setIfInBounds_toArray, List.set_cons_zero, List.set_cons_succ]
                    refine wpAnyH_take (i := 6) (oi := _) (v := ?q1_7v) rfl (by kernel_rfl) (by kernel_rfl) (by kernel_rfl) (fun _ _ _ h => h) (Or.inl ⟨by rfl, ?q1_7y⟩) (by assumption) ?q1_7r
                    case q1_7y => (intro w0 hSw; (try dsimp only at hSw); go_simp; try (with_reducible rfl))
                    case q1_7r =>
                      simp only [Act.put, List.getElem_toArray, List.getElem_cons_succ, List.getElem_cons_zero, List.setIfInBounds_toArray, List.set_cons_zero, List.set_cons_succ]
                      refine wpAnyH_take (i := 7) (oi := _) (v := ?q1_8v) rfl (by kernel_rfl) (by kernel_rfl) (by kernel_rfl) (fun _ _ _ h => h) (Or.inl ⟨by rfl, ?q1_8y⟩) (by assumption) ?q1_8r
                      case q1_8y => (intro w0 hSw; (try dsimp only at hSw); go_simp; try (with_reducible rfl))
                      case q1_8r =>
                        simp only [Act.put, List.getElem_toArray, List.getElem_cons_succ, List.getElem_cons_zero, List.setIfInBounds_toArray, List.set_cons_zero, List.set_cons_succ]
                        refine wpAnyH_take (i := 8) (oi := _) (v := ?q1_9v) rfl (by kernel_rfl) (by kernel_rfl) (by kernel_rfl) (fun _ _ _ h => h) (Or.inl ⟨by rfl, ?q1_9y⟩) (by assumption) ?q1_9r
                        case q1_9y => (intro w0 hSw; (try dsimp only at hSw); go_simp; try (with_reducible rfl))
                        case q1_9r =>
                          simp only [Act.put, List.getElem_toArray, List.getElem_cons_succ, List.getElem_cons_zero, List.setIfInBounds_toArray, List.set_cons_zero, List.set_cons_succ]
                          refine wpAnyH_take (i := 9) (oi := _) (v := ?q1_10v) rfl (by kernel_rfl) (by kernel_rfl) (by kernel_rfl) (fun _ _ _ h => h) (Or.inl ⟨by rfl, ?q1_10y⟩) (by assumption) ?q1_10r
                          case q1_10y => (intro w0 hSw; (try dsimp only at hSw); go_simp; try (with_reducible rfl))
                          case q1_10r =>
                            simp only [Act.put, List.getElem_toArray, List.getElem_cons_succ, List.getElem_cons_zero, List.setIfInBounds_toArray, List.set_cons_zero, List.set_cons_succ]
                            refine wpAnyH_take (i := 10) (oi := _) (v := ?q1_11v) rfl (by kernel_rfl) (by kernel_rfl) (by kernel_rfl) (fun _ _ _ h => h) (Or.inl ⟨by rfl, ?q1_11y⟩) (by assumption) ?q1_11r
                            case q1_11y => (intro w0 hSw; (try dsimp only at hSw); go_simp; try (with_reducible rfl))
                            case q1_11r =>
                              simp only [Act.put, List.getElem_toArray, List.getElem_cons_succ, List.getElem_cons_zero, List.setIfInBounds_toArray, List.set_cons_zero, List.set_cons_succ]
                              refine wpAnyH_take (i := 11) (oi := _) (v := ?q1_12v) rfl (by kernel_rfl) (by kernel_rfl) (by kernel_rfl) (fun _ _ _ h => h) (Or.inl ⟨by rfl, ?q1_12y⟩) (by assumption) ?q1_12r
                              case q1_12y => (intro w0 hSw; (try dsimp only at hSw); go_simp; try (with_reducible rfl))
                              case q1_12r =>
                                simp only [Act.put, List.getElem_toArray, List.getElem_cons_succ, List.getElem_cons_zero, List.setIfInBounds_toArray, List.set_cons_zero, List.set_cons_succ]
                                refine wpAnyH_take (i := 12) (oi := _) (v := ?q1_13v) rfl (by kernel_rfl) (by kernel_rfl) (by kernel_rfl) (fun _ _ _ h => h) (Or.inl ⟨by rfl, ?q1_13y⟩) (by assumption) ?q1_13r
                                case q1_13y => (intro w0 hSw; (try dsimp only at hSw); go_simp; try (with_reducible rfl))
                                case q1_13r =>
                                  simp only [Act.put, List.getElem_toArray, List.getElem_cons_succ, List.getElem_cons_zero, List.setIfInBounds_toArray, List.set_cons_zero, List.set_cons_succ]
                                  refine wpAnyH_take (i := 13) (oi := _) (v := ?q1_14v) rfl (by kernel_rfl) (by kernel_rfl) (by kernel_rfl) (fun _ _ _ h => h) (Or.inl ⟨by rfl, ?q1_14y⟩) (by assumption) ?q1_14r
                                  case q1_14y => (intro w0 hSw; (try dsimp only at hSw); go_simp; try (with_reducible rfl))
                                  case q1_14r =>
                                    simp only [Act.put, List.getElem_toArray, List.getElem_cons_succ, List.getElem_cons_zero, List.setIfInBounds_toArray, List.set_cons_zero, List.set_cons_succ]
                                    refine wpAnyH_take (i := 14) (oi := _) (v := ?q1_15v) rfl (by kernel_rfl) (by kernel_rfl) (by kernel_rfl) (fun _ _ _ h => h) (Or.inl ⟨by rfl, ?q1_15y⟩) (by assumption) ?q1_15r
                                    case q1_15y => (intro w0 hSw; (try dsimp only at hSw); go_simp; try (with_reducible rfl))
                                    case q1_15r =>
                                      simp only [Act.put, List.getElem_toArray, List.getElem_cons_succ, List.getElem_cons_zero, List.setIfInBounds_toArray, List.set_cons_zero, List.set_cons_succ]
                                      refine wpAnyH_take (i := 15) (oi := _) (v := ?q1_16v) rfl (by kernel_rfl) (by kernel_rfl) (by kernel_rfl) (fun _ _ _ h => h) (Or.inl ⟨by rfl, ?q1_16y⟩) (by assumption) ?q1_16r
                                      case q1_16y => (intro w0 hSw; (try dsimp only at hSw); go_simp; try (with_reducible rfl))
                                      case q1_16r =>
                                        simp only [Act.put, List.getElem_toArray, List.getElem_cons_succ, List.getElem_cons_zero, List.setIfInBounds_toArray, List.set_cons_zero, List.set_cons_succ]
                                        refine wpAnyH_take (i := 16) (oi := _) (v := ?q1_17v) rfl (by kernel_rfl) (by kernel_rfl) (by kernel_rfl) (fun _ _ _ h => h) (Or.inl ⟨by rfl, ?q1_17y⟩) (by assumption) ?q1_17r
                                        case q1_17y => (intro w0 hSw; (try dsimp only at hSw); go_simp; try (with_reducible rfl))
                                        case q1_17r =>
                                          simp only [Act.put, List.getElem_toArray, List.getElem_cons_succ, List.getElem_cons_zero, List.setIfInBounds_toArray, List.set_cons_zero, List.set_cons_succ]
                                          refine wpAnyH_take (i := 17) (oi := _) (v := ?q1_18v) rfl (by kernel_rfl) (by kernel_rfl) (by kernel_rfl) (fun _ _ _ h => h) (Or.inl ⟨by rfl, ?q1_18y⟩) (by assumption) ?q1_18r
                                          case q1_18y => (intro w0 hSw; (try dsimp only at hSw); go_simp; try (with_reducible rfl))
                                          case q1_18r =>
                                            simp only [Act.put, List.getElem_toArray, List.getElem_cons_succ, List.getElem_cons_zero, List.setIfInBounds_toArray, List.set_cons_zero, List.set_cons_succ]
                                            refine wpAnyH_take (i := 18) (oi := _) (v := ?q1_19v) rfl (by kernel_rfl) (by kernel_rfl) (by kernel_rfl) (fun _ _ _ h => h) (Or.inl ⟨by rfl, ?q1_19y⟩) (by assumption) ?q1_19r
                                            case q1_19y => (intro w0 hSw; (try dsimp only at hSw); go_simp; try (with_reducible rfl))
                                            case q1_19r =>
                                              simp only [Act.put, List.getElem_toArray, List.getElem_cons_succ, List.getElem_cons_zero, List.setIfInBounds_toArray, List.set_cons_zero, List.set_cons_succ]
                                              refine wpAnyH_take (i := 19) (oi := _) (v := ?q1_20v) rfl (by kernel_rfl) (by kernel_rfl) (by kernel_rfl) (fun _ _ _ h => h) (Or.inl ⟨by rfl, ?q1_20y⟩) (by assumption) ?q1_20r
                                              case q1_20y => (intro w0 hSw; (try dsimp only at hSw); go_simp; try (with_reducible rfl))
                                              case q1_20r =>
                                                simp only [Act.put, List.getElem_toArray, List.getElem_cons_succ, List.getElem_cons_zero, List.setIfInBounds_toArray, List.set_cons_zero, List.set_cons_succ]
                                                refine wpAnyH_ready (rs := [20]) (by kernel_rfl) (by simp) ?q1_21g
                                                case q1_21g =>
                                                  refine AllReadyH.cons (o := _) rfl (fun K hK => ?q1_21k) AllReadyH.nil
                                                  case q1_21k =>
                                                    (refine step_app _ (by rfl) _ _ 22 (by rfl) 5 i5 (.int .u8 0) 1 1 Try.underlying22 hi5 hz50 hz51 hz52 rfl (by decide) none 0 0 [] (by first | rfl | simp [Act.eval, Act.put]) (some ⟨xo, 0, none⟩) A.S.bytes co (l0.map (Value.int .u8)) (by first | rfl | simp [Act.eval, Act.put]) (RowAt.nil _ _ _) (by exact hxs.out) (fun h => by cases h) (by intro u hu; obtain ⟨z, _, rfl⟩ := List.mem_map.1 hu; rfl) (by exact n1.out) (by exact n2.out) ?_; intro a9 c9 w9 hr9 hk9 hb9; have k9 := Lib.hid ((Keeps.refl Nil w5).drew.trans (hk9.mono (fun j h => by cases h))); have hr9' := Lib.hid hr9; have hb9' := Lib.hid hb9; clear hr9 hk9 hb9)
                                                    refine hK.out _ _ ?q1_21s (fun hHeld => ?q1_21t)
                                                    case q1_21s => (try dsimp only); first | exact hS.out _ (Keeps.refl Nil w5).drew | exact hS.out _ k9.out
                                                    case q1_21t =>
                                                      clear hK K
                                                      try simp only [Act.put, List.getElem_toArray, List.getElem_cons_succ, List.getElem_cons_zero, List.setIfInBounds_toArray, List.set_cons_zero, List.set_cons_succ]
                                                      refine wpAnyH_take (i := 21) (oi := _) (v := ?q1_22v) rfl (by kernel_rfl) (by kernel_rfl) (by kernel_rfl) (fun _ _ _ h => h) (Or.inl ⟨by rfl, ?q1_22y⟩) (by assumption) ?q1_22r
                                                      case q1_22y => (intro w0 hSw; (try dsimp only at hSw); go_simp; try (with_reducible rfl))
                                                      case q1_22r =>
                                                        simp only [Act.put, List.getElem_toArray, List.getElem_cons_succ, List.getElem_cons_zero, List.setIfInBounds_toArray, List.set_cons_zero, List.set_cons_succ]
                                                        refine wpAnyH_done (by kernel_rfl) ?q1z _
                                                        case q1z =>
                                                          obtain ⟨g9, hg9, hg9n⟩ : ∃ g, a9 = some ⟨g, 0, none⟩ ∧ w5.heap.size ≤ g := by
                                                            rcases RowAt.form hr9'.out with ⟨_, h, _⟩ | ⟨g, _, h, _⟩
                                                            · omega
                                                            · refine ⟨g, h, ?_⟩
                                                              rcases hb9'.out with q | ⟨q, _⟩
                                                              · rw [h] at q; cases q
                                                              · rw [h] at q; cases q; exact Nat.le_refl _
                                                          subst hg9
                                                          have hg9w : w.heap.size ≤ g9 := Nat.le_trans hI5.out.2.1.size hg9n
                                                          have hg9O : ¬ O g9 := fun e => by have := RfB.lt hI5.out.1 g9 e; omega
                                                          have hrow : NumRow .u8 w9 5 (some ⟨g9, 0, none⟩) c9 l0 := by
                                                            have := hr9'.out
                                                            unfold NumRow
                                                            rw [xl'.out]
                                                            rw [Nat.zero_add] at this
                                                            exact this
                                                          have hst := Lib.hid (show RfI w P O w9 (A.tickR.mid (ticked A.ops d n p 0 A.F) (faultsTo A.ops d n p (l0, A.flips) A.F 0).2) O ∧ NumRow .u8 w9 5 (some ⟨g9, 0, none⟩) c9 (faultsTo A.ops d n p (l0, A.flips) A.F 0).1 from ⟨by rw [ticked_zero, faultsTo_zero]; exact hI5.out.nil k9.out, by rw [faultsTo_zero]; exact hrow⟩)
                                                          clear hrow hr9' hb9' hxs n1 n2 hS k9 hI5 hg9n m w1 w2 lt
                                                          try rw [Nat.zero_add]
                                                          go_wp2_with fail
                                                          go_loopw [16] (fun i wr => ∃ k : Nat, k ≤ P.L.length ∧ i = .int .i64 k ∧ Hid (RfI w P O wr (A.tickR.mid (ticked A.ops d n p k A.F) (faultsTo A.ops d n p (l0, A.flips) A.F k).2) O ∧ NumRow .u8 wr 5 (some ⟨g9, 0, none⟩) c9 (faultsTo A.ops d n p (l0, A.flips) A.F k).1)) (fun i _ => P.L.length - (intOf i).toNat)
                                                          case atStart => exact ⟨0, Nat.zero_le _, rfl, hst⟩
                                                          case round =>
                                                            clear hst
                                                            obtain ⟨k, hk, rfl, hrel⟩ := hrel
                                                            have c5 := RfB.cell hrel.out.1.1 5
                                                            have c6 := RfB.cell hrel.out.1.1 6
                                                            simp only [rfCells, List.getElem?_toArray, List.getElem?_cons_zero, List.getElem?_cons_succ] at c5 c6
                                                            by_cases hlt : k < P.L.length
                                                            · obtain ⟨x, hx⟩ : ∃ x, P.L[k]? = some x := ⟨P.L[k], List.getElem?_eq_getElem hlt⟩
                                                              have hkF : k < A.F.length := by rw [← hLe'.out]; exact hlt
                                                              obtain ⟨f, hf⟩ : ∃ f, A.F[k]? = some f := ⟨A.F[k], List.getElem?_eq_getElem hkF⟩
                                                              have hft : (A.tickR.mid (ticked A.ops d n p k A.F) (faultsTo A.ops d n p (l0, A.flips) A.F k).2).F[k]? = some f := (ticked_at hkF).trans hf
                                                              have hbe : x.f.bare = f.bare := by
                                                                have h1 := congrArg (fun l : List Ft => l[k]?) (RfB.fls hrel.out.1.1)
                                                                simp only [List.getElem?_map, hx, hft, Option.map_some, Option.some.injEq] at h1
                                                                exact h1
                                                              obtain ⟨b1, b2, b3, b4, b5, b6⟩ := bare_eq hbe
                                                              obtain ⟨gf, hgf, q0, q1, q2, q3, q4, q5, q6, q7⟩ := RfB.fault hrel.out.1.1 hx
                                                              rw [b1] at q0
                                                              rw [b2] at q1
                                                              rw [b3] at q2
                                                              rw [b4] at q3
                                                              rw [b5] at q4
                                                              rw [b6] at q7
                                                              obtain ⟨gl, hgl, cl, zl⟩ := left_cell hrel.out.1 hft
                                                              rw [hgf] at c5
                                                              rw [hgl] at c6
                                                              have hbt := (RfB.bits hrel.out.1.1 x (List.mem_of_getElem? hx)).1
                                                              rw [b6] at hbt
                                                              have hfo := hg'.out.ok.F f (List.mem_of_getElem? hf)
                                                              obtain ⟨wo, hwo⟩ : ∃ wo, wr.alloc (.cells #[.int .i64 f.kind, .int .i64 f.time, .int .i64 f.die, .int .i64 f.block, .int .i64 f.page, .int .i64 x.f.times, .int .i64 x.f.part, .slice x.a f.bits.length x.c] 33) = wo := ⟨_, rfl⟩
                                                              have ko := (Keeps.refl Nil wr).alloc (.cells #[.int .i64 f.kind, .int .i64 f.time, .int .i64 f.die, .int .i64 f.block, .int .i64 f.page, .int .i64 x.f.times, .int .i64 x.f.part, .slice x.a f.bits.length x.c] 33)
                                                              have hob := heap_alloc_new wr (.cells #[.int .i64 f.kind, .int .i64 f.time, .int .i64 f.die, .int .i64 f.block, .int .i64 f.page, .int .i64 x.f.times, .int .i64 x.f.part, .slice x.a f.bits.length x.c] 33)
                                                              rw [hwo] at ko hob
                                                              obtain ⟨ob, hobs⟩ : ∃ ob, wr.heap.size = ob := ⟨_, rfl⟩
                                                              rw [hobs] at hob
                                                              have o0 := cell_of_heap hob 0
                                                              have o1 := cell_of_heap hob 1
                                                              have o2 := cell_of_heap hob 2
                                                              have o3 := cell_of_heap hob 3
                                                              have o4 := cell_of_heap hob 4
                                                              have o7 := cell_of_heap hob 7
                                                              simp only [List.getElem?_toArray, List.getElem?_cons_zero, List.getElem?_cons_succ] at o0 o1 o2 o3 o4 o7
                                                              have c6o := ko.cell c6 (fun h => h)
                                                              have c5o := ko.cell c5 (fun h => h)
                                                              have clo := ko.cell cl (fun h => h)
                                                              have zlo := ko.frozen zl (lt_of_cell cl) (fun h => h)
                                                              have hI := Lib.hid (hrel.out.1.nil ko)
                                                              have hR := Lib.hid (show NumRow .u8 wo 5 (some ⟨g9, 0, none⟩) c9 (faultsTo A.ops d n p (l0, A.flips) A.F k).1 from hrel.out.2.keeps ko (fun _ _ h => h))
                                                              have hwo' := Lib.hid hwo
                                                              have hob' := Lib.hid hob
                                                              have hf' := Lib.hid hf
                                                              have hft' := Lib.hid hft
                                                              have hgl' := Lib.hid hgl
                                                              have hfo' := Lib.hid hfo
                                                              have hbt' := Lib.hid (hbt.keeps ko (fun _ _ h => h))
                                                              have hx' := Lib.hid hx
                                                              have hb6 := Lib.hid b6
                                                              have hk2 : k < 2000 := by omega
                                                              clear hwo hob hf hft hfo hbt hrel hx hbe b1 b2 b3 b4 b5 b6 ko hkF hgf hgl cl zl
                                                              go_upto_region 22 with (fail)
                                                              rw [show wr.alloc (.cells #[.int .i64 f.kind, .int .i64 f.time, .int .i64 f.die, .int .i64 f.block, .int .i64 f.page, .int .i64 x.f.times, .int .i64 x.f.part, .slice x.a f.bits.length x.c] 33) = wo from hwo'.out]
                                                              clear q0 q1 q2 q3 q4 q5 q6 q7 c5 c6 hobs hwo'
                                                              rcases now_cases2 f A.ops d n p with ⟨hnow, h1⟩ | ⟨hnow, h1, h2⟩ | ⟨hnow, h1, h2, h3⟩ | ⟨hnow, h1, h2, h3, h4⟩ | ⟨hnow, h1, h2, h3, h4, h5⟩ | ⟨hnow, h1, h2, h3, h4, h5, h6⟩ | ⟨hnow, h1, h2, h3, h4, h5, h6⟩
                                                              · have hD := Lib.hid (show RfI w P O wo (A.tickR.mid (ticked A.ops d n p (k + 1) A.F) (faultsTo A.ops d n p (l0, A.flips) A.F (k + 1)).2) O ∧ NumRow .u8 wo 5 (some ⟨g9, 0, none⟩) c9 (faultsTo A.ops d n p (l0, A.flips) A.F (k + 1)).1 from by
                                                                  rw [ticked_skip hf'.out hnow, faultsTo_skip hf'.out hnow]
                                                                  exact ⟨hI.out, hR.out⟩)
                                                                clear hI hR
                                                                go_wp2_with fail
                                                                go_roundw
                                                                case rel => exact ⟨k + 1, by omega, by go_num, hD⟩
                                                                case measure => simp [intOf]; omega
                                                              · have hD := Lib.hid (show RfI w P O wo (A.tickR.mid (ticked A.ops d n p (k + 1) A.F) (faultsTo A.ops d n p (l0, A.flips) A.F (k + 1)).2) O ∧ NumRow .u8 wo 5 (some ⟨g9, 0, none⟩) c9 (faultsTo A.ops d n p (l0, A.flips) A.F (k + 1)).1 from by
                                                                  rw [ticked_skip hf'.out hnow, faultsTo_skip hf'.out hnow]
                                                                  exact ⟨hI.out, hR.out⟩)
                                                                clear hI hR
                                                                go_wp2_with fail
                                                                go_roundw
                                                                case rel => exact ⟨k + 1, by omega, by go_num, hD⟩
                                                                case measure => simp [intOf]; omega
                                                              · have hD := Lib.hid (show RfI w P O wo (A.tickR.mid (ticked A.ops d n p (k + 1) A.F) (faultsTo A.ops d n p (l0, A.flips) A.F (k + 1)).2) O ∧ NumRow .u8 wo 5 (some ⟨g9, 0, none⟩) c9 (faultsTo A.ops d n p (l0, A.flips) A.F (k + 1)).1 from by
                                                                  rw [ticked_skip hf'.out hnow, faultsTo_skip hf'.out hnow]
                                                                  exact ⟨hI.out, hR.out⟩)
                                                                clear hI hR
                                                                rw [h3] at clo
                                                                go_wp2_with fail
                                                                go_roundw
                                                                case rel => exact ⟨k + 1, by omega, by go_num, hD⟩
                                                                case measure => simp [intOf]; omega
                                                              · have hD := Lib.hid (show RfI w P O wo (A.tickR.mid (ticked A.ops d n p (k + 1) A.F) (faultsTo A.ops d n p (l0, A.flips) A.F (k + 1)).2) O ∧ NumRow .u8 wo 5 (some ⟨g9, 0, none⟩) c9 (faultsTo A.ops d n p (l0, A.flips) A.F (k + 1)).1 from by
                                                                  rw [ticked_skip hf'.out hnow, faultsTo_skip hf'.out hnow]
                                                                  exact ⟨hI.out, hR.out⟩)
                                                                clear hI hR
                                                                have h3z : (0 : Int) < (f.left : Int) := by omega
                                                                have h3d : decide (0 < f.left) = true := by simpa using h3
                                                                go_wp2_with fail
                                                                go_roundw
                                                                case rel => exact ⟨k + 1, by omega, by go_num, hD⟩
                                                                case measure => simp [intOf]; omega
                                                              · have hD := Lib.hid (show RfI w P O wo (A.tickR.mid (ticked A.ops d n p (k + 1) A.F) (faultsTo A.ops d n p (l0, A.flips) A.F (k + 1)).2) O ∧ NumRow .u8 wo 5 (some ⟨g9, 0, none⟩) c9 (faultsTo A.ops d n p (l0, A.flips) A.F (k + 1)).1 from by
                                                                  rw [ticked_skip hf'.out hnow, faultsTo_skip hf'.out hnow]
                                                                  exact ⟨hI.out, hR.out⟩)
                                                                clear hI hR
                                                                have h3z : (0 : Int) < (f.left : Int) := by omega
                                                                have h3d : decide (0 < f.left) = true := by simpa using h3
                                                                go_wp2_with fail
                                                                go_roundw
                                                                case rel => exact ⟨k + 1, by omega, by go_num, hD⟩
                                                                case measure => simp [intOf]; omega
                                                              · have hD := Lib.hid (show RfI w P O wo (A.tickR.mid (ticked A.ops d n p (k + 1) A.F) (faultsTo A.ops d n p (l0, A.flips) A.F (k + 1)).2) O ∧ NumRow .u8 wo 5 (some ⟨g9, 0, none⟩) c9 (faultsTo A.ops d n p (l0, A.flips) A.F (k + 1)).1 from by
                                                                  rw [ticked_skip hf'.out hnow, faultsTo_skip hf'.out hnow]
                                                                  exact ⟨hI.out, hR.out⟩)
                                                                clear hI hR
                                                                have h3z : (0 : Int) < (f.left : Int) := by omega
                                                                have h3d : decide (0 < f.left) = true := by simpa using h3
                                                                go_wp2_with fail
                                                                go_roundw
                                                                case rel => exact ⟨k + 1, by omega, by go_num, hD⟩
                                                                case measure => simp [intOf]; omega
                                                              · obtain ⟨y, hy⟩ : ∃ y, f.left = y + 1 := ⟨f.left - 1, by omega⟩
                                                                have h3z : (0 : Int) < (f.left : Int) := by omega
                                                                have hyb : (y : Int) + 1 ≤ 9223372036854775807 := by have := hfo'.out.left; omega
                                                                rw [hy, show ((y + 1 : Nat) : Int) = (y : Int) + 1 from by omega] at clo
                                                                have hyz : (0 : Int) < (y : Int) + 1 := by omega
                                                                have hset := RfB.setLeft hI.out.1 hgl'.out hft'.out y
                                                                have hkl : Keeps (· = gl) wo (wo.setCell ⟨gl, k, none⟩ (.int .i64 (y : Nat))) := (Keeps.refl (· = gl) wo).setCell (.inl rfl) _
                                                                have hgO : O gl := RfB.ownL hI.out.1 gl (by rw [hgl'.out]; rfl)
                                                                have hI1 : RfI w P O (wo.setCell ⟨gl, k, none⟩ (.int .i64 (y : Nat))) (A.tickR.mid (ticked A.ops d n p (k + 1) A.F) (faultsTo A.ops d n p (l0, A.flips) A.F k).2) O := by
                                                                  have h8 := hI.out.edit hset hkl (fun j hj => by rw [hj]; exact hgO)
                                                                  rw [← ticked_set hf'.out, show f.tick A.ops d n p = { f with left := y } by unfold Ft.tick; rw [if_pos hnow, hy]; rfl]
                                                                  exact h8
                                                                have hR1 : NumRow .u8 (wo.setCell ⟨gl, k, none⟩ (.int .i64 (y : Nat))) 5 (some ⟨g9, 0, none⟩) c9 (faultsTo A.ops d n p (l0, A.flips) A.F k).1 := hR.out.keeps hkl (fun g hg e => by simp [blk] at hg; subst hg; exact hg9O (by rw [e]; exact hgO))
                                                                obtain ⟨cL, hcL⟩ : ∃ c, wo.heap[gl]? = some (.cells c 3 (0, 0)) := RowAt.heap (RfB.left hI.out.1) (by rw [hgl'.out]; rfl)
                                                                have hO1 := hkl.heap hob'.out (cells_ne hob'.out hcL (by decide))
                                                                obtain ⟨wl, hwl⟩ : ∃ wl, wo.setCell ⟨gl, k, none⟩ (.int .i64 (y : Nat)) = wl := ⟨_, rfl⟩
                                                                rw [hwl] at hI1 hR1 hO1
                                                                have hwl' := Lib.hid hwl
                                                                obtain ⟨st, hst⟩ : ∃ st, faultsTo A.ops d n p (l0, A.flips) A.F k = st := ⟨_, rfl⟩
                                                                have hstl : st.1.length = A.S.bytes := by rw [← hst, faultsTo_len]; exact xl'.out
                                                                rw [hst] at hI1 hR1
                                                                have hst0 := Lib.hid (show RfI w P O wl (A.tickR.mid (ticked A.ops d n p (k + 1) A.F) (bitsTo st f.bits 0).2) O ∧ NumRow .u8 wl 5 (some ⟨g9, 0, none⟩) c9 (bitsTo st f.bits 0).1 ∧ wl.heap[ob]? = some (.cells #[.int .i64 f.kind, .int .i64 f.time, .int .i64 f.die, .int .i64 f.block, .int .i64 f.page, .int .i64 x.f.times, .int .i64 x.f.part, .slice x.a f.bits.length x.c] 33 (0, 0)) from ⟨by rw [bitsTo_zero]; exact hI1, by rw [bitsTo_zero]; exact hR1, hO1⟩)
                                                                have hst' := Lib.hid hst
                                                                have hblen := hfo'.out.blen
                                                                clear hset hkl hI1 hR1 hO1 hwl hst hI hR hbt'
                                                                go_upto_region 24 with (fail)
                                                                rw [hwl'.out]
                                                                clear clo zlo c6o c5o o0 o1 o2 o3 o4 o7 hwl'
                                                                go_wp2_with fail
                                                                go_loopw [18] (fun i wz => ∃ q : Nat, q ≤ f.bits.length ∧ i = .int .i64 q ∧ Hid (RfI w P O wz (A.tickR.mid (ticked A.ops d n p (k + 1) A.F) (bitsTo st f.bits q).2) O ∧ NumRow .u8 wz 5 (some ⟨g9, 0, none⟩) c9 (bitsTo st f.bits q).1 ∧ wz.heap[ob]? = some (.cells #[.int .i64 f.kind, .int .i64 f.time, .int .i64 f.die, .int .i64 f.block, .int .i64 f.page, .int .i64 x.f.times, .int .i64 x.f.part, .slice x.a f.bits.length x.c] 33 (0, 0)))) (fun i _ => f.bits.length - (intOf i).toNat)
                                                                case atStart => exact ⟨0, Nat.zero_le _, rfl, hst0⟩
                                                                case round =>
                                                                  clear hst0
                                                                  obtain ⟨q, hq, rfl, hrel⟩ := hrel
                                                                  have o7 := cell_of_heap hrel.out.2.2 7
                                                                  simp only [List.getElem?_toArray, List.getElem?_cons_zero, List.getElem?_cons_succ] at o7
                                                                  by_cases hql : q < f.bits.length
                                                                  · have hbx := (RfB.bits hrel.out.1.1 x (List.mem_of_getElem? hx'.out)).1
                                                                    rw [hb6.out] at hbx
                                                                    obtain ⟨gb, ofb, hga, cb0⟩ := hbx q hql
                                                                    obtain ⟨kk, hkk⟩ : ∃ kk, gi f.bits q = kk := ⟨_, rfl⟩
                                                                    obtain ⟨kb0, kb1⟩ := hfo'.out.bits kk (by rw [← hkk, gi_eq hql]; exact List.getElem_mem _)
                                                                    rw [hkk] at cb0
                                                                    rw [hga] at o7
                                                                    obtain ⟨j, hj⟩ : ∃ j : Nat, kk / 8 = (j : Int) := ⟨(kk / 8).toNat, by omega⟩
                                                                    obtain ⟨r, hr⟩ : ∃ r : Nat, kk % 8 = (r : Int) := ⟨(kk % 8).toNat, by omega⟩
                                                                    have hjb : j < A.S.bytes := by omega
                                                                    have hr8 : r < 8 := by omega
                                                                    have hML := bitsTo_len st f.bits q hq
                                                                    rw [hstl] at hML
                                                                    obtain ⟨g', hg1, hgl2, cg, fg⟩ := hrel.out.2.1.cell (q := j) (by rw [hML]; exact hjb)
                                                                    cases hg1
                                                                    have hd8 : kk.tdiv 8 = (j : Int) := by rw [Int.tdiv_eq_ediv_of_nonneg kb0]; exact hj
                                                                    have hm8 : kk.tmod 8 = (r : Int) := by rw [Int.tmod_eq_emod_of_nonneg kb0]; exact hr
                                                                    have hwj : IntKind.i64.wrap (j : Int) = (j : Int) := by rw [IntKind.wrap_i64]; omega
                                                                    have hwr : IntKind.i64.wrap (r : Int) = (r : Int) := by rw [IntKind.wrap_i64]; omega
                                                                    obtain ⟨fl, hfl⟩ : ∃ z, (bitsTo st f.bits q).2 = z := ⟨_, rfl⟩
                                                                    have hstp := Lib.hid (show bitsTo st f.bits (q + 1) = ((bitsTo st f.bits q).1.set j (bits .xor .u8 (gi (bitsTo st f.bits q).1 j) (128 / 2 ^ r)), wrap64 (fl + 1)) from by
                                                                      rw [bitsTo_step hql, hkk]
                                                                      unfold flipB turnB
                                                                      rw [hj, hr, Int.toNat_natCast, Int.toNat_natCast, hfl])
                                                                    have hq13 : q < 20000000000000 := by omega
                                                                    have hrel' := Lib.hid hrel.out
                                                                    have c12 : ∀ v, ((wr.setCell ⟨g9, j, none⟩ v).drew).cell? ⟨P.rb, 12, none⟩ = some (.int .i64 fl) := fun v => by
                                                                      have h1 := RfB.cell (RfI.far hQ.out hrel.out.1 ((Keeps.refl (· = g9) wr).setCell (p := ⟨g9, j, none⟩) (.inl rfl) v) hg9w hg9O).1 12
                                                                      simp only [rfCells, List.getElem?_toArray, List.getElem?_cons_zero, List.getElem?_cons_succ] at h1
                                                                      rw [← hfl]; exact h1
                                                                    have z12 : ∀ v, ((wr.setCell ⟨g9, j, none⟩ v).drew).frozen? ⟨P.rb, 12, none⟩ = false := fun v => frozen_of_heap (RfI.far hQ.out hrel.out.1 ((Keeps.refl (· = g9) wr).setCell (p := ⟨g9, j, none⟩) (.inl rfl) v) hg9w hg9O).blk 12
                                                                    clear hrel hbx hkk hML hga hj hr
                                                                    go_wp2_with fail
                                                                    go_still_tail 26, (by kernel_rfl)
                                                                    change wpList _ _ _ _ _ wr.drew
                                                                    go_wp2_with fail
                                                                    rw [show min r 8 = r from Nat.min_eq_left (by omega)]
                                                                    go_roundw
                                                                    case rel => exact ⟨q + 1, by omega, by go_num, Lib.hid (by rw [hstp.out]; exact read_step hQ.out hrel'.out.1 hrel'.out.2.1 hrel'.out.2.2 hg9w hg9O j _ _)⟩
                                                                    case measure => simp [intOf]; omega
                                                                  · have hqn : q = f.bits.length := by omega
                                                                    have h1 := hrel.out.1
                                                                    have h2 := hrel.out.2.1
                                                                    rw [hqn, ← hst'.out, ← faultsTo_turn hf'.out hnow] at h1 h2
                                                                    have hD := Lib.hid (show _ ∧ _ from ⟨h1, h2⟩)
                                                                    clear hrel h1 h2
                                                                    go_wp2_with fail
                                                                    go_roundw
                                                                    case rel => exact ⟨k + 1, by omega, by go_num, hD⟩
                                                                    case measure => simp [intOf]; omega
                                                            · have hkl : k = P.L.length := by omega
                                                              go_wp2_with fail
                                                              go_ret2
                                                              rw [hr1'.out, hr2'.out]
                                                              have h1 := hrel.out.1
                                                              have h2 := hrel.out.2
                                                              rw [hkl, hLe'.out] at h1 h2
                                                              rw [ticked_all, faultsTo_all] at h1
                                                              rw [faultsTo_all] at h2
                                                              have hs : A.readSt A.ops d n p = A.F.foldl (flipF A.ops d n p) (l0, A.flips) := by unfold Nd.readSt; rw [hl0'.out]
                                                              have hln : (A.readSt A.ops d n p).1.length = A.S.bytes := readSt_len hg'.out.ok _ _ _ _
                                                              rw [← hs] at h1 h2
                                                              refine ⟨_, rfl, O, h1, g9, c9, ?_, h2, hg9w, hg9O⟩
                                                              rw [hln]
                                                              rfl
end Go.Proofs.Ytglpacdenfoicaa
