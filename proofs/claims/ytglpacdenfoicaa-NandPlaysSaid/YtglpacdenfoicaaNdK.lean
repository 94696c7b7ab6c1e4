/- nand: a block is erased: whole, or in part -/
import Derived.Test.YtglpacdenfoicaaNdJ
namespace Go.Proofs.Ytglpacdenfoicaa
open Go.RowKit

variable {w w' : World} {ab bb bc fc : Nat} {db : Nat → Nat} {pb : Nat → Nat → Nat} {fa : Option Addr} {L : List Fx} {A A' : Nd} {O T : Nat → Prop}
/-- a block's pages are cleared, so many -/
theorem NdB.clear (h : NdB w ab A bb bc db pb fa fc L O) {d n m c : Nat} (hd : d < A.S.dies) (hn : n < A.S.blocks) (hm : m ≤ A.S.pages) :
    ∃ w', (∀ ty, (Builtin.clear_ #[80] ty #[.slice (some ⟨pb d n, 0, none⟩) m c]).run Try.prog w = .ok (.tuple #[]) w') ∧ NdB w' ab (A.setB d n ((A.B d n).clear m)) bb bc db pb fa fc L O ∧ Keeps (· = pb d n) w w' := by
  obtain ⟨w', h1, h2, h3⟩ := run_clear80 (c := c) (h.pgs d n hd hn) hm
  exact ⟨w', h1, h.editP hd hn (k' := (A.B d n).clear m) h3 rfl rfl (fun _ h => h) (fun k hk => Nat.lt_of_lt_of_le (h.lt k hk) h3.size) h2, h3⟩
theorem NdB.setNext (h : NdB w ab A bb bc db pb fa fc L O) {d n : Nat} (hd : d < A.S.dies) (hn : n < A.S.blocks) (x : Int) :
    NdB (w.setCell ⟨db d, n * 3 + 1, none⟩ (.int .i64 x)) ab (A.setB d n ((A.B d n).at x)) bb bc db pb fa fc L O :=
  h.editD (n := n) (k' := (A.B d n).at x) hd ((Keeps.refl (· = db d) w).setCell (p := ⟨db d, n * 3 + 1, none⟩) (.inl rfl) _) rfl ((h.die d hd).setNext hn _)
theorem Nd.setB_S (A : Nd) (d n : Nat) (k : Bk) : (A.setB d n k).S = A.S := rfl
set_option maxHeartbeats 4000000 in
set_option maxRecDepth 100000 in
theorem whole38 {qb d n : Nat} {op : Int} (h : NdB w ab A bb bc db pb fa fc L O) (hok : A.Ok) (hd : d < A.S.dies) (hn : n < A.S.blocks) (her : (A.B d n).er ≤ 1000000)
    (hq : w.heap[qb]? = some (.cells (ersCells ab (db d) (n * 3) d n) 102 (0, 0))) (hqO : ¬ O qb) :
    Calls Try.prog 38 #[.pointer (some ⟨qb, 0, none⟩), .int .i64 op] w (Step w ab bb bc db pb fa fc O (.returned (.int .i64 (A.eraseW op d n).1)) (A.eraseW op d n).2) := by
  have hB := bad64 (op := op) h hok hd hn her hq hqO
  have hqO' := Lib.hid hqO
  have hq' := Lib.hid hq
  have hp64 := hok.S.p2
  cases hbad : A.badP op d n 3 with
  | true =>
    have hR : A.eraseW op d n = (43, A.wear d n) := by unfold Nd.eraseW; rw [hbad, if_pos rfl]
    rw [hR]
    rw [hbad] at hB
    obtain ⟨A2, hA2⟩ : ∃ A2, A.wear d n = A2 := ⟨_, rfl⟩
    simp only
    rw [hA2] at hB ⊢
    have hB' := Lib.hid hB
    clear hB h hok hq hqO hR hbad hA2
    go_enter Try.func38, Try.ntmps38
    go_wp2_with fail
    refine (hB'.out).mono ?_
    rintro e w3 ⟨rfl, hE⟩
    have hE' := Lib.hid hE
    clear hE
    go_wp2_with fail
    go_ret
    exact ⟨rfl, hE'.out⟩
  | false =>
    have hR : A.eraseW op d n = (0, (A.wear d n).eraseOk d n) := by unfold Nd.eraseW; rw [hbad]; rfl
    rw [hR]
    rw [hbad] at hB
    obtain ⟨A2, hA2⟩ : ∃ A2, (A.wear d n).eraseOk d n = A2 := ⟨_, rfl⟩
    simp only
    rw [hA2]
    have hA2' := Lib.hid hA2
    have hB' := Lib.hid hB
    clear hB h hok hq hqO hR hbad hA2
    go_enter Try.func38, Try.ntmps38
    go_wp2_with fail
    refine (hB'.out).mono ?_
    rintro e w3 ⟨rfl, L3, O3, hN3, k3, hO3⟩
    have hq3 := k3.heap hq'.out hqO'.out
    have q1 := cell_of_heap hq3 1
    simp only [ersCells, List.getElem?_toArray, List.getElem?_cons_zero, List.getElem?_cons_succ] at q1
    have d0 : w3.cell? ⟨db d, n * 3, none⟩ = some (.slice (some ⟨pb d n, 0, none⟩) A.S.pages A.S.pages) := (hN3.cellD hd hn).1
    obtain ⟨w4, hc4, hN4, hk4⟩ := hN3.clear (d := d) (n := n) (m := A.S.pages) (c := A.S.pages) hd hn (Nat.le_refl _)
    have hc4' := Lib.hid hc4
    have k4 := Lib.hid (k3.trans' (hk4.mono (T := O3) (fun j hj => by rw [hj]; exact hN3.ownP d n hd hn)) hO3)
    have hO3' := Lib.hid hO3
    obtain ⟨ps, hps⟩ := hN3.heapP hd hn
    have hq4 := hk4.heap hq3 (cells_ne hq3 hps (by decide))
    have q14 := cell_of_heap hq4 1
    simp only [ersCells, List.getElem?_toArray, List.getElem?_cons_zero, List.getElem?_cons_succ] at q14
    obtain ⟨_, g1, _, gf⟩ := hN4.cellD hd hn
    have hN4' := Lib.hid hN4
    clear hN3 k3 hO3 hq3 hc4 hN4 hk4 hps hq4 hB'
    go_wp2_with (refine wpList_clear (w' := w4) rfl _ 80 rfl _ rfl hc4'.out ?_)
    go_ret
    have h5 := hN4'.out.setNext (d := d) (n := n) hd hn 0
    rw [Nd.setB_same, Nd.setB_setB] at h5
    rw [← hA2'.out]
    exact ⟨rfl, L3, O3, h5, k4.out.trans' ((Keeps.refl (· = db d) w4).setCell (p := ⟨db d, n * 3 + 1, none⟩) (.inl rfl) _) (fun j hj => by rw [hj]; exact hO3'.out _ (h5.ownD d hd)), hO3'.out⟩
set_option maxHeartbeats 4000000 in
set_option maxRecDepth 100000 in
theorem part39 {qb d n pt : Nat} {op : Int} (h : NdB w ab A bb bc db pb fa fc L O) (hok : A.Ok) (hd : d < A.S.dies) (hn : n < A.S.blocks) (her : (A.B d n).er ≤ 1000000)
    (hq : w.heap[qb]? = some (.cells (ersCells ab (db d) (n * 3) d n) 102 (0, 0))) (hqO : ¬ O qb) :
    Calls Try.prog 39 #[.pointer (some ⟨qb, 0, none⟩), .int .i64 op, .int .i64 (pt : Nat)] w (Step w ab bb bc db pb fa fc O (.returned (.tuple #[])) (A.eraseP op d n (pt : Nat))) := by
  have hB := bad64 (op := op) h hok hd hn her hq hqO
  have hqO' := Lib.hid hqO
  have hq' := Lib.hid hq
  have hp64 := hok.S.p2
  cases hbad : A.badP op d n 3 with
  | true =>
    have hR : A.eraseP op d n (pt : Nat) = (A.wear d n).setB d n (((A.wear d n).B d n).at (-1)) := by unfold Nd.eraseP; rw [hbad]; rfl
    rw [hR]
    rw [hbad] at hB
    obtain ⟨A2, hA2⟩ : ∃ A2, (A.wear d n).setB d n (((A.wear d n).B d n).at (-1)) = A2 := ⟨_, rfl⟩
    rw [hA2]
    have hA2' := Lib.hid hA2
    have hB' := Lib.hid hB
    clear hB h hok hq hqO hR hbad hA2
    go_enter Try.func39, Try.ntmps39
    go_wp2_with fail
    refine (hB'.out).mono ?_
    rintro e w3 ⟨rfl, L3, O3, hN3, k3, hO3⟩
    have hq3 := k3.heap hq'.out hqO'.out
    have q1 := cell_of_heap hq3 1
    simp only [ersCells, List.getElem?_toArray, List.getElem?_cons_zero, List.getElem?_cons_succ] at q1
    obtain ⟨_, g1, _, gf⟩ := hN3.cellD hd hn
    have hN3' := Lib.hid hN3
    have k3' := Lib.hid k3
    have hO3' := Lib.hid hO3
    clear hN3 k3 hO3 hq3 hB'
    go_wp2_with fail
    go_end0
    have h5 := hN3'.out.setNext (d := d) (n := n) hd hn (-1)
    rw [← hA2'.out]
    exact ⟨rfl, L3, O3, h5, k3'.out.trans' ((Keeps.refl (· = db d) w3).setCell (p := ⟨db d, n * 3 + 1, none⟩) (.inl rfl) _) (fun j hj => by rw [hj]; exact hO3'.out _ (h5.ownD d hd)), hO3'.out⟩
  | false =>
    obtain ⟨m, hm⟩ : ∃ m, min pt A.S.pages = m := ⟨_, rfl⟩
    have hm1 : m ≤ A.S.pages := by omega
    have hmin : (if A.S.pages < pt then (A.S.pages : Int) else (pt : Int)) = (m : Int) := by split <;> omega
    have hR : A.eraseP op d n (pt : Nat) = ((A.wear d n).eraseCut d n m).setB d n ((((A.wear d n).eraseCut d n m).B d n).at (-1)) := by
      unfold Nd.eraseP
      rw [hbad]
      simp only [Int.toNat_natCast, hm]
      rfl
    rw [hR]
    rw [hbad] at hB
    obtain ⟨A2, hA2⟩ : ∃ A2, ((A.wear d n).eraseCut d n m).setB d n ((((A.wear d n).eraseCut d n m).B d n).at (-1)) = A2 := ⟨_, rfl⟩
    rw [hA2]
    have hA2' := Lib.hid hA2
    have hB' := Lib.hid hB
    clear hB h hok hq hqO hR hbad hA2 hm
    go_enter Try.func39, Try.ntmps39
    go_wp2_with fail
    refine (hB'.out).mono ?_
    rintro e w3 ⟨rfl, L3, O3, hN3, k3, hO3⟩
    have hq3 := k3.heap hq'.out hqO'.out
    have q1 := cell_of_heap hq3 1
    simp only [ersCells, List.getElem?_toArray, List.getElem?_cons_zero, List.getElem?_cons_succ] at q1
    have d0 : w3.cell? ⟨db d, n * 3, none⟩ = some (.slice (some ⟨pb d n, 0, none⟩) A.S.pages A.S.pages) := (hN3.cellD hd hn).1
    have hN3d := hN3.keeps (Keeps.refl Nil w3).drew (fun _ _ h => h)
    obtain ⟨w4, hc4, hN4, hk4⟩ := hN3d.clear (d := d) (n := n) (m := m) (c := A.S.pages) hd hn hm1
    have hc4' := Lib.hid hc4
    have hk34 := (Keeps.refl (· = pb d n) w3).drew.trans hk4
    have k4 := Lib.hid (k3.trans' (hk34.mono (T := O3) (fun j hj => by rw [hj]; exact hN3.ownP d n hd hn)) hO3)
    have hO3' := Lib.hid hO3
    obtain ⟨ps, hps⟩ := hN3.heapP hd hn
    obtain ⟨cs, hcs⟩ := hN3.heapD hd
    have e2 : ¬ qb = pb d n := cells_ne hq3 hps (by decide)
    have e1 : ¬ db d = pb d n := cells_ne hcs hps (by decide)
    have hq4 := hk34.heap hq3 e2
    have q14 := cell_of_heap hq4 1
    simp only [ersCells, List.getElem?_toArray, List.getElem?_cons_zero, List.getElem?_cons_succ] at q14
    obtain ⟨_, g1, _, gf⟩ := hN4.cellD hd hn
    have hN4' := Lib.hid hN4
    have hS5 := Lib.hid (fun (W : World) (hW : Keeps (· = pb d n) w3 W) => (show W.cell? ⟨qb, 1, none⟩ = some (.pointer (some ⟨db d, n * 3, none⟩)) ∧ W.cell? ⟨db d, n * 3, none⟩ = some (.slice (some ⟨pb d n, 0, none⟩) A.S.pages A.S.pages) from ⟨hW.cell q1 e2, hW.cell d0 e1⟩))
    have hk34' := Lib.hid hk34
    clear hN3 k3 hO3 hq3 hc4 hN4 hk4 hps hcs hq4 hB' hN3d e1 e2 q1 d0 hk34
    go_wp2_with fail
    refine wp_region_held_drew (S := fun W => W.cell? ⟨qb, 1, none⟩ = some (.pointer (some ⟨db d, n * 3, none⟩)) ∧ W.cell? ⟨db d, n * 3, none⟩ = some (.slice (some ⟨pb d n, 0, none⟩) A.S.pages A.S.pages)) (by kernel_rfl) ?q1a (fun hHeld => ?q1b)
    case q1a => (try dsimp only); first | exact hS5.out _ (Keeps.refl (· = pb d n) w3).drew | exact hS5.out _ hk34'.out
    case q1b =>
      refine wpAnyH_take (i := 0) (oi := _) (v := ?q1_1v) rfl (by kernel_rfl) (by kernel_rfl) (by kernel_rfl) (fun _ _ _ h => h) (Or.inl ⟨by rfl, ?q1_1y⟩) (by assumption) ?q1_1r
      case q1_1y => (intro w0 hSw; (try dsimp only at hSw); go_simp; try (with_reducible rfl))
      case q1_1r =>
        simp only [Act.put, List.getElem_toArray, List.getElem_cons_zero, List.setIfInBounds_toArray, List.set_cons_zero, List.set_cons_succ]
        refine wpAnyH_take (i := 1) (oi := _) (v := ?q1_2v) rfl (by kernel_rfl) (by kernel_rfl) (by kernel_rfl) (fun _ _ _ h => h) (Or.inl ⟨by rfl, ?q1_2y⟩) (by assumption) ?q1_2r
        case q1_2y => (intro w0 hSw; (try dsimp only at hSw); go_simp; try (with_reducible rfl))
        case q1_2r =>
          simp only [Act.put, List.getElem_toArray, List.getElem_cons_succ, List.getElem_cons_zero, List.setIfInBounds_toArray, List.set_cons_zero, List.set_cons_succ]
          refine wpAnyH_take (i := 2) (oi := _) (v := ?q1_3v) rfl (by kernel_rfl) (by kernel_rfl) (by kernel_rfl) (fun _ _ _ h => h) (Or.inl ⟨by rfl, ?q1_3y⟩) (by assumption) ?q1_3r
          case q1_3y => (intro w0 hSw; (try dsimp only at hSw); go_simp; try (with_reducible rfl))
          case q1_3r =>
            simp only [Act.put, List.getElem_toArray, List.getElem_cons_succ, List.getElem_cons_zero, List.setIfInBounds_toArray, List.set_cons_zero, List.set_cons_succ]
            refine wpAnyH_take (i := 3) (oi := _) (v := ?q1_4v) rfl (by kernel_rfl) (by kernel_rfl) (by kernel_rfl) (fun _ _ _ h => h) (Or.inl ⟨by rfl, ?q1_4y⟩) (by assumption) ?q1_4r
            case q1_4y => (intro w0 hSw; (try dsimp only at hSw); go_simp; try (with_reducible rfl))
            case q1_4r =>
              simp only [Act.put, List.getElem_toArray, List.getElem_cons_succ, List.getElem_cons_zero, List.setIfInBounds_toArray, List.set_cons_zero, List.set_cons_succ]
              refine wpAnyH_take (i := 4) (oi := _) (v := ?q1_5v) rfl (by kernel_rfl) (by kernel_rfl) (by kernel_rfl) (fun _ _ _ h => h) (Or.inl ⟨by rfl, ?q1_5y⟩) (by assumption) ?q1_5r
              case q1_5y => (intro w0 hSw; (try dsimp only at hSw); go_simp; try (with_reducible rfl))
              case q1_5r =>
                simp only [Act.put, List.getElem_toArray, List.getElem_cons_succ, List.getElem_cons_zero, List.setIfInBounds_toArray, List.set_cons_zero, List.set_cons_succ]
                refine wpAnyH_take (i := 5) (oi := _) (v := ?q1_6v) rfl (by kernel_rfl) (by kernel_rfl) (by kernel_rfl) (fun _ _ _ h => h) (Or.inl ⟨by rfl, ?q1_6y⟩) (by assumption) ?q1_6r
                case q1_6y => (intro w0 hSw; (try dsimp only at hSw); go_simp; try (with_reducible rfl))
                case q1_6r =>
                  simp only [Act.put, List.getElem_toArray, List.getElem_cons_succ, List.getElem_cons_zero, List.setIfInBounds_toArray, List.set_cons_zero, List.set_cons_succ]
                  refine wpAnyH_take (i := 6) (oi := _) (v := ?q1_7v) rfl (by kernel_rfl) (by kernel_rfl) (by kernel_rfl) (fun _ _ _ h => h) (Or.inl ⟨by rfl, ?q1_7y⟩) (by assumption) ?q1_7r
                  case q1_7y => (intro w0 hSw; (try dsimp only at hSw); go_simp; try (with_reducible rfl))
                  case q1_7r =>
                    simp only [Act.put, List.getElem_toArray, List.getElem_cons_succ, List.getElem_cons_zero, List.setIfInBounds_toArray, List.set_cons_zero, List.set_cons_succ]
                    refine wpAnyH_take (i := 7) (oi := _) (v := ?q1_8v) rfl (by kernel_rfl) (by kernel_rfl) (by kernel_rfl) (fun _ _ _ h => h) (Or.inl ⟨by rfl, ?q1_8y⟩) (by assumption) ?q1_8r
                    case q1_8y => (intro w0 hSw; (try dsimp only at hSw); go_simp; try (with_reducible rfl))
                    case q1_8r =>
                      simp only [Act.put, List.getElem_toArray, List.getElem_cons_succ, List.getElem_cons_zero, List.setIfInBounds_toArray, List.set_cons_zero, List.set_cons_succ]
                      refine wpAnyH_take (i := 8) (oi := _) (v := ?q1_9v) rfl (by kernel_rfl) (by kernel_rfl) (by kernel_rfl) (fun _ _ _ h => h) (Or.inl ⟨by rfl, ?q1_9y⟩) (by assumption) ?q1_9r
                      case q1_9y => (intro w0 hSw; (try dsimp only at hSw); go_simp; try (with_reducible rfl))
                      case q1_9r =>
                        simp only [Act.put, List.getElem_toArray, List.getElem_cons_succ, List.getElem_cons_zero, List.setIfInBounds_toArray, List.set_cons_zero, List.set_cons_succ]
                        refine wpAnyH_take (i := 9) (oi := _) (v := ?q1_10v) rfl (by kernel_rfl) (by kernel_rfl) (by kernel_rfl) (fun _ _ _ h => h) (Or.inl ⟨by rfl, ?q1_10y⟩) (by assumption) ?q1_10r
                        case q1_10y => (intro w0 hSw; (try dsimp only at hSw); go_simp; try (with_reducible rfl))
                        case q1_10r =>
                          simp only [Act.put, List.getElem_toArray, List.getElem_cons_succ, List.getElem_cons_zero, List.setIfInBounds_toArray, List.set_cons_zero, List.set_cons_succ]
                          refine wpAnyH_take (i := 10) (oi := _) (v := ?q1_11v) rfl (by kernel_rfl) (by kernel_rfl) (by kernel_rfl) (fun _ _ _ h => h) (Or.inl ⟨by rfl, ?q1_11y⟩) (by assumption) ?q1_11r
                          case q1_11y => (intro w0 hSw; (try dsimp only at hSw); go_simp; try (with_reducible rfl))
                          case q1_11r =>
                            simp only [Act.put, List.getElem_toArray, List.getElem_cons_succ, List.getElem_cons_zero, List.setIfInBounds_toArray, List.set_cons_zero, List.set_cons_succ]
                            refine wpAnyH_take (i := 11) (oi := _) (v := ?q1_12v) rfl (by kernel_rfl) (by kernel_rfl) (by kernel_rfl) (fun _ _ _ h => h) (Or.inl ⟨by rfl, ?q1_12y⟩) (by assumption) ?q1_12r
                            case q1_12y => (intro w0 hSw; (try dsimp only at hSw); go_simp; try (with_reducible rfl))
                            case q1_12r =>
                              simp only [Act.put, List.getElem_toArray, List.getElem_cons_succ, List.getElem_cons_zero, List.setIfInBounds_toArray, List.set_cons_zero, List.set_cons_succ]
                              refine wpAnyH_take (i := 12) (oi := _) (v := ?q1_13v) rfl (by kernel_rfl) (by kernel_rfl) (by kernel_rfl) (fun _ _ _ h => h) (Or.inl ⟨by rfl, ?q1_13y⟩) (by assumption) ?q1_13r
                              case q1_13y => (intro w0 hSw; (try dsimp only at hSw); go_simp; try (with_reducible rfl))
                              case q1_13r =>
                                simp only [Act.put, List.getElem_toArray, List.getElem_cons_succ, List.getElem_cons_zero, List.setIfInBounds_toArray, List.set_cons_zero, List.set_cons_succ]
                                refine wpAnyH_take (i := 13) (oi := _) (v := ?q1_14v) rfl (by kernel_rfl) (by kernel_rfl) (by kernel_rfl) (fun _ _ _ h => h) (Or.inl ⟨by rfl, ?q1_14y⟩) (by assumption) ?q1_14r
                                case q1_14y => (intro w0 hSw; (try dsimp only at hSw); go_simp; try (with_reducible rfl))
                                case q1_14r =>
                                  simp only [Act.put, List.getElem_toArray, List.getElem_cons_succ, List.getElem_cons_zero, List.setIfInBounds_toArray, List.set_cons_zero, List.set_cons_succ]
                                  refine wpAnyH_take (i := 14) (oi := _) (v := ?q1_15v) rfl (by kernel_rfl) (by kernel_rfl) (by kernel_rfl) (fun _ _ _ h => h) (Or.inl ⟨by rfl, ?q1_15y⟩) (by assumption) ?q1_15r
                                  case q1_15y => (intro w0 hSw; (try dsimp only at hSw); go_simp; try (with_reducible rfl))
                                  case q1_15r =>
                                    simp only [Act.put, List.getElem_toArray, List.getElem_cons_succ, List.getElem_cons_zero, List.setIfInBounds_toArray, List.set_cons_zero, List.set_cons_succ]
                                    refine wpAnyH_take (i := 15) (oi := _) (v := ?q1_16v) rfl (by kernel_rfl) (by kernel_rfl) (by kernel_rfl) (fun _ _ _ h => h) (Or.inl ⟨by rfl, ?q1_16y⟩) (by assumption) ?q1_16r
                                    case q1_16y => (intro w0 hSw; (try dsimp only at hSw); go_simp; try (with_reducible rfl))
                                    case q1_16r =>
                                      simp only [Act.put, List.getElem_toArray, List.getElem_cons_succ, List.getElem_cons_zero, List.setIfInBounds_toArray, List.set_cons_zero, List.set_cons_succ]
                                      refine wpAnyH_take (i := 16) (oi := _) (v := ?q1_17v) rfl (by kernel_rfl) (by kernel_rfl) (by kernel_rfl) (fun _ _ _ h => h) (Or.inl ⟨by rfl, ?q1_17y⟩) (by assumption) ?q1_17r
                                      case q1_17y => (intro w0 hSw; (try dsimp only at hSw); go_simp; try (with_reducible rfl))
                                      case q1_17r =>
                                        simp only [Act.put, List.getElem_toArray, List.getElem_cons_succ, List.getElem_cons_zero, List.setIfInBounds_toArray, List.set_cons_zero, List.set_cons_succ]
                                        refine wpAnyH_take (i := 17) (oi := _) (v := ?q1_18v) rfl (by kernel_rfl) (by kernel_rfl) (by kernel_rfl) (fun _ _ _ h => h) (Or.inl ⟨by rfl, ?q1_18y⟩) (by assumption) ?q1_18r
                                        case q1_18y => (intro w0 hSw; (try dsimp only at hSw); go_simp; try (with_reducible rfl))
                                        case q1_18r =>
                                          simp only [Act.put, List.getElem_toArray, List.getElem_cons_succ, List.getElem_cons_zero, List.setIfInBounds_toArray, List.set_cons_zero, List.set_cons_succ]
                                          refine wpAnyH_ready (rs := [18]) (by kernel_rfl) (by simp) ?q1_19g
                                          case q1_19g =>
                                            refine AllReadyH.cons (o := _) rfl (fun K hK => ?q1_19k) AllReadyH.nil
                                            case q1_19k =>
                                              (refine step_clear (w' := w4) rfl _ 80 rfl _ rfl hc4'.out ?_)
                                              refine hK.out _ _ ?q1_19s (fun hHeld => ?q1_19t)
                                              case q1_19s => (try dsimp only); first | exact hS5.out _ (Keeps.refl (· = pb d n) w3).drew | exact hS5.out _ hk34'.out
                                              case q1_19t =>
                                                clear hK K
                                                try simp only [Act.put, List.getElem_toArray, List.getElem_cons_succ, List.getElem_cons_zero, List.setIfInBounds_toArray, List.set_cons_zero, List.set_cons_succ]
                                                refine wpAnyH_done (by kernel_rfl) ?q1z _
                                                case q1z =>
                                                  clear hmin
                                                  go_wp2_with fail
                                                  go_end0
                                                  have h5 := hN4'.out.setNext (d := d) (n := n) hd hn (-1)
                                                  rw [← hA2'.out]
                                                  exact ⟨rfl, L3, O3, h5, k4.out.trans' ((Keeps.refl (· = db d) w4).setCell (p := ⟨db d, n * 3 + 1, none⟩) (.inl rfl) _) (fun j hj => by rw [hj]; exact hO3'.out _ (h5.ownD d hd)), hO3'.out⟩
end Go.Proofs.Ytglpacdenfoicaa
