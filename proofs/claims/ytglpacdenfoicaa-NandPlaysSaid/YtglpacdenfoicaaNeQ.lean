/- nand: Events, Shape -/
import Derived.Test.YtglpacdenfoicaaNeH
namespace Go.Proofs.Ytglpacdenfoicaa
open Go.RowKit

variable {w w' : World} {ab bb bc fc : Nat} {db : Nat → Nat} {pb : Nat → Nat → Nat} {fa : Option Addr} {L : List Fx} {A A' : Nd} {O T : Nat → Prop}
theorem load36 {w : World} {b o : Nat} {x : Int} (hc : w.cell? ⟨b, o, none⟩ = some (.int .i64 x)) :
    Calls Try.prog 36 #[.pointer (some ⟨b, o, none⟩)] w fun e w' => e = .returned (.int .i64 x) ∧ w' = w := by
  have hl := Lib.hid (load37 hc)
  clear hc
  go_enter Try.func36, Try.ntmps36
  go_wp2_with fail
  refine (hl.out).mono ?_
  rintro e w1 ⟨rfl, h1⟩
  rw [h1]
  clear h1 w1
  go_wp2_with fail
  go_ret
  exact ⟨rfl, rfl⟩
def evCells (A : Nd) : Array Value := #[.int .i64 (A.reads : Nat), .int .i64 (A.programs : Nat), .int .i64 (A.erases : Nat), .int .i64 A.flips, .int .i64 (A.fails : Nat), .int .i64 (A.cuts : Nat)]
set_option maxHeartbeats 4000000 in
set_option maxRecDepth 100000 in
theorem shape48 (h : NdB w ab A bb bc db pb fa fc L O) : Calls Try.prog 48 #[.pointer (some ⟨ab, 0, none⟩)] w fun e w' => e = .returned (.agg #[.int .i64 (A.S.dies : Nat), .int .i64 (A.S.blocks : Nat), .int .i64 (A.S.pages : Nat), .int .i64 (A.S.bytes : Nat)]) ∧ Keeps Nil w w' := by
  have k0 := (Keeps.refl Nil w).alloc (.cells #[.int .i64 0, .int .i64 0, .int .i64 0, .int .i64 0] 31)
  have h' := h.keeps k0 (fun _ _ h => h)
  have c0 := h'.cell 0
  have c1 := h'.cell 1
  have c2 := h'.cell 2
  have c3 := h'.cell 3
  simp only [ndCells, List.getElem?_toArray, List.getElem?_cons_zero, List.getElem?_cons_succ] at c0 c1 c2 c3
  have k0' := Lib.hid k0
  clear h h' k0
  go_enter Try.func48, Try.ntmps48
  go_wp2_with fail
  exact bodyPost_ret (v := .agg #[.int .i64 (A.S.dies : Nat), .int .i64 (A.S.blocks : Nat), .int .i64 (A.S.pages : Nat), .int .i64 (A.S.bytes : Nat)]) (by simp [results, Try.results48, go_sem]) rfl ⟨rfl, (Keeps.refl Nil w).alloc _⟩
set_option maxHeartbeats 4000000 in
set_option maxRecDepth 100000 in
theorem events15 (h : NdB w ab A bb bc db pb fa fc L O) : Calls Try.prog 15 #[.pointer (some ⟨ab, 0, none⟩)] w fun e w' => e = .returned (.agg (evCells A)) ∧ Keeps Nil w w' := by
  have k0 := (Keeps.refl Nil w).alloc (.cells #[.int .i64 0, .int .i64 0, .int .i64 0, .int .i64 0, .int .i64 0, .int .i64 0] 40)
  have h' := h.keeps k0 (fun _ _ h => h)
  have c8 := h'.cell 8
  have c9 := h'.cell 9
  have c10 := h'.cell 10
  have c11 := h'.cell 11
  have c12 := h'.cell 12
  have c13 := h'.cell 13
  simp only [ndCells, List.getElem?_toArray, List.getElem?_cons_zero, List.getElem?_cons_succ] at c8 c9 c10 c11 c12 c13
  have hab : ab < w.heap.size := h.lt _ h.ownA
  have hne : ¬ ab = w.heap.size := by omega
  have l8 := Lib.hid (fun W (hk : Keeps (· = w.heap.size) (w.alloc (.cells #[.int .i64 0, .int .i64 0, .int .i64 0, .int .i64 0, .int .i64 0, .int .i64 0] 40)) W) => load36 (hk.cell c8 hne))
  have l9 := Lib.hid (fun W (hk : Keeps (· = w.heap.size) (w.alloc (.cells #[.int .i64 0, .int .i64 0, .int .i64 0, .int .i64 0, .int .i64 0, .int .i64 0] 40)) W) => load36 (hk.cell c9 hne))
  have l10 := Lib.hid (fun W (hk : Keeps (· = w.heap.size) (w.alloc (.cells #[.int .i64 0, .int .i64 0, .int .i64 0, .int .i64 0, .int .i64 0, .int .i64 0] 40)) W) => load36 (hk.cell c10 hne))
  have l11 := Lib.hid (fun W (hk : Keeps (· = w.heap.size) (w.alloc (.cells #[.int .i64 0, .int .i64 0, .int .i64 0, .int .i64 0, .int .i64 0, .int .i64 0] 40)) W) => load36 (hk.cell c11 hne))
  have l12 := Lib.hid (fun W (hk : Keeps (· = w.heap.size) (w.alloc (.cells #[.int .i64 0, .int .i64 0, .int .i64 0, .int .i64 0, .int .i64 0, .int .i64 0] 40)) W) => load36 (hk.cell c12 hne))
  have l13 := Lib.hid (fun W (hk : Keeps (· = w.heap.size) (w.alloc (.cells #[.int .i64 0, .int .i64 0, .int .i64 0, .int .i64 0, .int .i64 0, .int .i64 0] 40)) W) => load36 (hk.cell c13 hne))
  have hs := Lib.hid (((Keeps.refl (· = w.heap.size) (w.alloc (.cells #[.int .i64 0, .int .i64 0, .int .i64 0, .int .i64 0, .int .i64 0, .int .i64 0] 40))).drew))
  unfold evCells
  clear h h' k0 c8 c9 c10 c11 c12 c13 hab hne
  go_enter Try.func15, Try.ntmps15
  go_upto_region 5 with (fail)
  refine wp_region_held_drew (S := fun _ => True) (by kernel_rfl) ?q1a (fun hHeld => ?q1b)
  case q1a => (try dsimp only); skip
  case q1b =>
    refine wpAnyH_take (i := 0) (oi := _) (v := ?q1_1v) rfl (by kernel_rfl) (by kernel_rfl) (by kernel_rfl) (fun _ _ _ h => h) (Or.inl ⟨by rfl, ?q1_1y⟩) (by assumption) ?q1_1r
    case q1_1y => (intro w0 hSw; (try dsimp only at hSw); go_simp; try (with_reducible rfl))
    case q1_1r =>
      simp only [Act.put, List.getElem_toArray, List.getElem_cons_zero, List.setIfInBounds_toArray, List.set_cons_zero, List.set_cons_succ]
      refine wpAnyH_take (i := 1) (oi := _) (v := ?q1_2v) rfl (by kernel_rfl) (by kernel_rfl) (by kernel_rfl) (fun _ _ _ h => h) (Or.inl ⟨by rfl, ?q1_2y⟩) (by assumption) ?q1_2r
      case q1_2y => (intro w0 hSw; (try dsimp only at hSw); go_simp; try (with_reducible rfl))
      case q1_2r =>
        simp only [Act.put, List.getElem_toArray, List.getElem_cons_succ, List.getElem_cons_zero, List.setIfInBounds_toArray, List.set_cons_zero, List.set_cons_succ]
        refine wpAnyH_take (i := 2) (oi := _) (v := ?q1_3v) rfl (by kernel_rfl) (by kernel_rfl) (by kernel_rfl) (fun _ _ _ h => h) (Or.inl ⟨by rfl, ?q1_3y⟩) (by assumption) ?q1_3r
        case q1_3y => (intro w0 hSw; (try dsimp only at hSw); go_simp; try (with_reducible rfl))
        case q1_3r =>
          simp only [Act.put, List.getElem_toArray, List.getElem_cons_succ, List.getElem_cons_zero, List.setIfInBounds_toArray, List.set_cons_zero, List.set_cons_succ]
          refine wpAnyH_take (i := 3) (oi := _) (v := ?q1_4v) rfl (by kernel_rfl) (by kernel_rfl) (by kernel_rfl) (fun _ _ _ h => h) (Or.inl ⟨by rfl, ?q1_4y⟩) (by assumption) ?q1_4r
          case q1_4y => (intro w0 hSw; (try dsimp only at hSw); go_simp; try (with_reducible rfl))
          case q1_4r =>
            simp only [Act.put, List.getElem_toArray, List.getElem_cons_succ, List.getElem_cons_zero, List.setIfInBounds_toArray, List.set_cons_zero, List.set_cons_succ]
            refine wpAnyH_take (i := 5) (oi := _) (v := ?q1_5v) rfl (by kernel_rfl) (by kernel_rfl) (by kernel_rfl) (fun _ _ _ h => h) (Or.inl ⟨by rfl, ?q1_5y⟩) (by assumption) ?q1_5r
            case q1_5y => (intro w0 hSw; (try dsimp only at hSw); go_simp; try (with_reducible rfl))
            case q1_5r =>
              simp only [Act.put, List.getElem_toArray, List.getElem_cons_succ, List.getElem_cons_zero, List.setIfInBounds_toArray, List.set_cons_zero, List.set_cons_succ]
              refine wpAnyH_take (i := 6) (oi := _) (v := ?q1_6v) rfl (by kernel_rfl) (by kernel_rfl) (by kernel_rfl) (fun _ _ _ h => h) (Or.inl ⟨by rfl, ?q1_6y⟩) (by assumption) ?q1_6r
              case q1_6y => (intro w0 hSw; (try dsimp only at hSw); go_simp; try (with_reducible rfl))
              case q1_6r =>
                simp only [Act.put, List.getElem_toArray, List.getElem_cons_succ, List.getElem_cons_zero, List.setIfInBounds_toArray, List.set_cons_zero, List.set_cons_succ]
                refine wpAnyH_take (i := 7) (oi := _) (v := ?q1_7v) rfl (by kernel_rfl) (by kernel_rfl) (by kernel_rfl) (fun _ _ _ h => h) (Or.inl ⟨by rfl, ?q1_7y⟩) (by assumption) ?q1_7r
                case q1_7y => (intro w0 hSw; (try dsimp only at hSw); go_simp; try (with_reducible rfl))
                case q1_7r =>
                  simp only [Act.put, List.getElem_toArray, List.getElem_cons_succ, List.getElem_cons_zero, List.setIfInBounds_toArray, List.set_cons_zero, List.set_cons_succ]
                  refine wpAnyH_take (i := 8) (oi := _) (v := ?q1_8v) rfl (by kernel_rfl) (by kernel_rfl) (by kernel_rfl) (fun _ _ _ h => h) (Or.inl ⟨by rfl, ?q1_8y⟩) (by assumption) ?q1_8r
                  case q1_8y => (intro w0 hSw; (try dsimp only at hSw); go_simp; try (with_reducible rfl))
                  case q1_8r =>
                    simp only [Act.put, List.getElem_toArray, List.getElem_cons_succ, List.getElem_cons_zero, List.setIfInBounds_toArray, List.set_cons_zero, List.set_cons_succ]
                    refine wpAnyH_take (i := 10) (oi := _) (v := ?q1_9v) rfl (by kernel_rfl) (by kernel_rfl) (by kernel_rfl) (fun _ _ _ h => h) (Or.inl ⟨by rfl, ?q1_9y⟩) (by assumption) ?q1_9r
                    case q1_9y => (intro w0 hSw; (try dsimp only at hSw); go_simp; try (with_reducible rfl))
                    case q1_9r =>
                      simp only [Act.put, List.getElem_toArray, List.getElem_cons_succ, List.getElem_cons_zero, List.setIfInBounds_toArray, List.set_cons_zero, List.set_cons_succ]
                      refine wpAnyH_take (i := 11) (oi := _) (v := ?q1_10v) rfl (by kernel_rfl) (by kernel_rfl) (by kernel_rfl) (fun _ _ _ h => h) (Or.inl ⟨by rfl, ?q1_10y⟩) (by assumption) ?q1_10r
                      case q1_10y => (intro w0 hSw; (try dsimp only at hSw); go_simp; try (with_reducible rfl))
                      case q1_10r =>
                        simp only [Act.put, List.getElem_toArray, List.getElem_cons_succ, List.getElem_cons_zero, List.setIfInBounds_toArray, List.set_cons_zero, List.set_cons_succ]
                        refine wpAnyH_take (i := 12) (oi := _) (v := ?q1_11v) rfl (by kernel_rfl) (by kernel_rfl) (by kernel_rfl) (fun _ _ _ h => h) (Or.inl ⟨by rfl, ?q1_11y⟩) (by assumption) ?q1_11r
                        case q1_11y => (intro w0 hSw; (try dsimp only at hSw); go_simp; try (with_reducible rfl))
                        case q1_11r =>
                          simp only [Act.put, List.getElem_toArray, List.getElem_cons_succ, List.getElem_cons_zero, List.setIfInBounds_toArray, List.set_cons_zero, List.set_cons_succ]
                          refine wpAnyH_take (i := 13) (oi := _) (v := ?q1_12v) rfl (by kernel_rfl) (by kernel_rfl) (by kernel_rfl) (fun _ _ _ h => h) (Or.inl ⟨by rfl, ?q1_12y⟩) (by assumption) ?q1_12r
                          case q1_12y => (intro w0 hSw; (try dsimp only at hSw); go_simp; try (with_reducible rfl))
                          case q1_12r =>
                            simp only [Act.put, List.getElem_toArray, List.getElem_cons_succ, List.getElem_cons_zero, List.setIfInBounds_toArray, List.set_cons_zero, List.set_cons_succ]
                            refine wpAnyH_take (i := 15) (oi := _) (v := ?q1_13v) rfl (by kernel_rfl) (by kernel_rfl) (by kernel_rfl) (fun _ _ _ h => h) (Or.inl ⟨by rfl, ?q1_13y⟩) (by assumption) ?q1_13r
                            case q1_13y => (intro w0 hSw; (try dsimp only at hSw); go_simp; try (with_reducible rfl))
                            case q1_13r =>
                              simp only [Act.put, List.getElem_toArray, List.getElem_cons_succ, List.getElem_cons_zero, List.setIfInBounds_toArray, List.set_cons_zero, List.set_cons_succ]
                              refine wpAnyH_take (i := 16) (oi := _) (v := ?q1_14v) rfl (by kernel_rfl) (by kernel_rfl) (by kernel_rfl) (fun _ _ _ h => h) (Or.inl ⟨by rfl, ?q1_14y⟩) (by assumption) ?q1_14r
                              case q1_14y => (intro w0 hSw; (try dsimp only at hSw); go_simp; try (with_reducible rfl))
                              case q1_14r =>
                                simp only [Act.put, List.getElem_toArray, List.getElem_cons_succ, List.getElem_cons_zero, List.setIfInBounds_toArray, List.set_cons_zero, List.set_cons_succ]
                                refine wpAnyH_take (i := 17) (oi := _) (v := ?q1_15v) rfl (by kernel_rfl) (by kernel_rfl) (by kernel_rfl) (fun _ _ _ h => h) (Or.inl ⟨by rfl, ?q1_15y⟩) (by assumption) ?q1_15r
                                case q1_15y => (intro w0 hSw; (try dsimp only at hSw); go_simp; try (with_reducible rfl))
                                case q1_15r =>
                                  simp only [Act.put, List.getElem_toArray, List.getElem_cons_succ, List.getElem_cons_zero, List.setIfInBounds_toArray, List.set_cons_zero, List.set_cons_succ]
                                  refine wpAnyH_take (i := 18) (oi := _) (v := ?q1_16v) rfl (by kernel_rfl) (by kernel_rfl) (by kernel_rfl) (fun _ _ _ h => h) (Or.inl ⟨by rfl, ?q1_16y⟩) (by assumption) ?q1_16r
                                  case q1_16y => (intro w0 hSw; (try dsimp only at hSw); go_simp; try (with_reducible rfl))
                                  case q1_16r =>
                                    simp only [Act.put, List.getElem_toArray, List.getElem_cons_succ, List.getElem_cons_zero, List.setIfInBounds_toArray, List.set_cons_zero, List.set_cons_succ]
                                    refine wpAnyH_take (i := 20) (oi := _) (v := ?q1_17v) rfl (by kernel_rfl) (by kernel_rfl) (by kernel_rfl) (fun _ _ _ h => h) (Or.inl ⟨by rfl, ?q1_17y⟩) (by assumption) ?q1_17r
                                    case q1_17y => (intro w0 hSw; (try dsimp only at hSw); go_simp; try (with_reducible rfl))
                                    case q1_17r =>
                                      simp only [Act.put, List.getElem_toArray, List.getElem_cons_succ, List.getElem_cons_zero, List.setIfInBounds_toArray, List.set_cons_zero, List.set_cons_succ]
                                      refine wpAnyH_take (i := 21) (oi := _) (v := ?q1_18v) rfl (by kernel_rfl) (by kernel_rfl) (by kernel_rfl) (fun _ _ _ h => h) (Or.inl ⟨by rfl, ?q1_18y⟩) (by assumption) ?q1_18r
                                      case q1_18y => (intro w0 hSw; (try dsimp only at hSw); go_simp; try (with_reducible rfl))
                                      case q1_18r =>
                                        simp only [Act.put, List.getElem_toArray, List.getElem_cons_succ, List.getElem_cons_zero, List.setIfInBounds_toArray, List.set_cons_zero, List.set_cons_succ]
                                        refine wpAnyH_take (i := 22) (oi := _) (v := ?q1_19v) rfl (by kernel_rfl) (by kernel_rfl) (by kernel_rfl) (fun _ _ _ h => h) (Or.inl ⟨by rfl, ?q1_19y⟩) (by assumption) ?q1_19r
                                        case q1_19y => (intro w0 hSw; (try dsimp only at hSw); go_simp; try (with_reducible rfl))
                                        case q1_19r =>
                                          simp only [Act.put, List.getElem_toArray, List.getElem_cons_succ, List.getElem_cons_zero, List.setIfInBounds_toArray, List.set_cons_zero, List.set_cons_succ]
                                          refine wpAnyH_take (i := 23) (oi := _) (v := ?q1_20v) rfl (by kernel_rfl) (by kernel_rfl) (by kernel_rfl) (fun _ _ _ h => h) (Or.inl ⟨by rfl, ?q1_20y⟩) (by assumption) ?q1_20r
                                          case q1_20y => (intro w0 hSw; (try dsimp only at hSw); go_simp; try (with_reducible rfl))
                                          case q1_20r =>
                                            simp only [Act.put, List.getElem_toArray, List.getElem_cons_succ, List.getElem_cons_zero, List.setIfInBounds_toArray, List.set_cons_zero, List.set_cons_succ]
                                            refine wpAnyH_take (i := 25) (oi := _) (v := ?q1_21v) rfl (by kernel_rfl) (by kernel_rfl) (by kernel_rfl) (fun _ _ _ h => h) (Or.inl ⟨by rfl, ?q1_21y⟩) (by assumption) ?q1_21r
                                            case q1_21y => (intro w0 hSw; (try dsimp only at hSw); go_simp; try (with_reducible rfl))
                                            case q1_21r =>
                                              simp only [Act.put, List.getElem_toArray, List.getElem_cons_succ, List.getElem_cons_zero, List.setIfInBounds_toArray, List.set_cons_zero, List.set_cons_succ]
                                              refine wpAnyH_take (i := 26) (oi := _) (v := ?q1_22v) rfl (by kernel_rfl) (by kernel_rfl) (by kernel_rfl) (fun _ _ _ h => h) (Or.inl ⟨by rfl, ?q1_22y⟩) (by assumption) ?q1_22r
                                              case q1_22y => (intro w0 hSw; (try dsimp only at hSw); go_simp; try (with_reducible rfl))
                                              case q1_22r =>
                                                simp only [Act.put, List.getElem_toArray, List.getElem_cons_succ, List.getElem_cons_zero, List.setIfInBounds_toArray, List.set_cons_zero, List.set_cons_succ]
                                                refine wpAnyH_take (i := 27) (oi := _) (v := ?q1_23v) rfl (by kernel_rfl) (by kernel_rfl) (by kernel_rfl) (fun _ _ _ h => h) (Or.inl ⟨by rfl, ?q1_23y⟩) (by assumption) ?q1_23r
                                                case q1_23y => (intro w0 hSw; (try dsimp only at hSw); go_simp; try (with_reducible rfl))
                                                case q1_23r =>
                                                  simp only [Act.put, List.getElem_toArray, List.getElem_cons_succ, List.getElem_cons_zero, List.setIfInBounds_toArray, List.set_cons_zero, List.set_cons_succ]
                                                  refine wpAnyH_take (i := 28) (oi := _) (v := ?q1_24v) rfl (by kernel_rfl) (by kernel_rfl) (by kernel_rfl) (fun _ _ _ h => h) (Or.inl ⟨by rfl, ?q1_24y⟩) (by assumption) ?q1_24r
                                                  case q1_24y => (intro w0 hSw; (try dsimp only at hSw); go_simp; try (with_reducible rfl))
                                                  case q1_24r =>
                                                    simp only [Act.put, List.getElem_toArray, List.getElem_cons_succ, List.getElem_cons_zero, List.setIfInBounds_toArray, List.set_cons_zero, List.set_cons_succ]
                                                    refine wpAnyH_ready (rs := [4]) (by kernel_rfl) (by simp) ?q1_25g
                                                    case q1_25g =>
                                                      refine AllReadyH.cons (o := _) rfl (fun K hK => ?q1_25k) AllReadyH.nil
                                                      case q1_25k =>
                                                        go_simp
                                                        (first | ((with_reducible refine (l8.out _ hs.out).mono ?_); rintro e w9 ⟨rfl, h9⟩; rw [h9]; clear h9 w9) | ((with_reducible refine (l9.out _ hs.out).mono ?_); rintro e w9 ⟨rfl, h9⟩; rw [h9]; clear h9 w9) | ((with_reducible refine (l10.out _ hs.out).mono ?_); rintro e w9 ⟨rfl, h9⟩; rw [h9]; clear h9 w9) | ((with_reducible refine (l11.out _ hs.out).mono ?_); rintro e w9 ⟨rfl, h9⟩; rw [h9]; clear h9 w9) | ((with_reducible refine (l12.out _ hs.out).mono ?_); rintro e w9 ⟨rfl, h9⟩; rw [h9]; clear h9 w9) | ((with_reducible refine (l13.out _ hs.out).mono ?_); rintro e w9 ⟨rfl, h9⟩; rw [h9]; clear h9 w9))
                                                        refine hK.out _ _ ?q1_25s (fun hHeld => ?q1_25t)
                                                        case q1_25s => (try dsimp only); skip
                                                        case q1_25t =>
                                                          clear hK K
                                                          try simp only [Act.put, List.getElem_toArray, List.getElem_cons_succ, List.getElem_cons_zero, List.setIfInBounds_toArray, List.set_cons_zero, List.set_cons_succ]
                                                          refine wpAnyH_ready (rs := [9]) (by kernel_rfl) (by simp) ?q1_26g
                                                          case q1_26g =>
                                                            refine AllReadyH.cons (o := _) rfl (fun K hK => ?q1_26k) AllReadyH.nil
                                                            case q1_26k =>
                                                              go_simp
                                                              (first | ((with_reducible refine (l8.out _ hs.out).mono ?_); rintro e w9 ⟨rfl, h9⟩; rw [h9]; clear h9 w9) | ((with_reducible refine (l9.out _ hs.out).mono ?_); rintro e w9 ⟨rfl, h9⟩; rw [h9]; clear h9 w9) | ((with_reducible refine (l10.out _ hs.out).mono ?_); rintro e w9 ⟨rfl, h9⟩; rw [h9]; clear h9 w9) | ((with_reducible refine (l11.out _ hs.out).mono ?_); rintro e w9 ⟨rfl, h9⟩; rw [h9]; clear h9 w9) | ((with_reducible refine (l12.out _ hs.out).mono ?_); rintro e w9 ⟨rfl, h9⟩; rw [h9]; clear h9 w9) | ((with_reducible refine (l13.out _ hs.out).mono ?_); rintro e w9 ⟨rfl, h9⟩; rw [h9]; clear h9 w9))
                                                              refine hK.out _ _ ?q1_26s (fun hHeld => ?q1_26t)
                                                              case q1_26s => (try dsimp only); skip
                                                              case q1_26t =>
                                                                clear hK K
                                                                try simp only [Act.put, List.getElem_toArray, List.getElem_cons_succ, List.getElem_cons_zero, List.setIfInBounds_toArray, List.set_cons_zero, List.set_cons_succ]
                                                                refine wpAnyH_ready (rs := [14]) (by kernel_rfl) (by simp) ?q1_27g
                                                                case q1_27g =>
                                                                  refine AllReadyH.cons (o := _) rfl (fun K hK => ?q1_27k) AllReadyH.nil
                                                                  case q1_27k =>
                                                                    go_simp
                                                                    (first | ((with_reducible refine (l8.out _ hs.out).mono ?_); rintro e w9 ⟨rfl, h9⟩; rw [h9]; clear h9 w9) | ((with_reducible refine (l9.out _ hs.out).mono ?_); rintro e w9 ⟨rfl, h9⟩; rw [h9]; clear h9 w9) | ((with_reducible refine (l10.out _ hs.out).mono ?_); rintro e w9 ⟨rfl, h9⟩; rw [h9]; clear h9 w9) | ((with_reducible refine (l11.out _ hs.out).mono ?_); rintro e w9 ⟨rfl, h9⟩; rw [h9]; clear h9 w9) | ((with_reducible refine (l12.out _ hs.out).mono ?_); rintro e w9 ⟨rfl, h9⟩; rw [h9]; clear h9 w9) | ((with_reducible refine (l13.out _ hs.out).mono ?_); rintro e w9 ⟨rfl, h9⟩; rw [h9]; clear h9 w9))
                                                                    refine hK.out _ _ ?q1_27s (fun hHeld => ?q1_27t)
                                                                    case q1_27s => (try dsimp only); skip
                                                                    case q1_27t =>
                                                                      clear hK K
                                                                      try simp only [Act.put, List.getElem_toArray, List.getElem_cons_succ, List.getElem_cons_zero, List.setIfInBounds_toArray, List.set_cons_zero, List.set_cons_succ]
                                                                      refine wpAnyH_ready (rs := [19]) (by kernel_rfl) (by simp) ?q1_28g
                                                                      case q1_28g =>
                                                                        refine AllReadyH.cons (o := _) rfl (fun K hK => ?q1_28k) AllReadyH.nil
                                                                        case q1_28k =>
                                                                          go_simp
                                                                          (first | ((with_reducible refine (l8.out _ hs.out).mono ?_); rintro e w9 ⟨rfl, h9⟩; rw [h9]; clear h9 w9) | ((with_reducible refine (l9.out _ hs.out).mono ?_); rintro e w9 ⟨rfl, h9⟩; rw [h9]; clear h9 w9) | ((with_reducible refine (l10.out _ hs.out).mono ?_); rintro e w9 ⟨rfl, h9⟩; rw [h9]; clear h9 w9) | ((with_reducible refine (l11.out _ hs.out).mono ?_); rintro e w9 ⟨rfl, h9⟩; rw [h9]; clear h9 w9) | ((with_reducible refine (l12.out _ hs.out).mono ?_); rintro e w9 ⟨rfl, h9⟩; rw [h9]; clear h9 w9) | ((with_reducible refine (l13.out _ hs.out).mono ?_); rintro e w9 ⟨rfl, h9⟩; rw [h9]; clear h9 w9))
                                                                          refine hK.out _ _ ?q1_28s (fun hHeld => ?q1_28t)
                                                                          case q1_28s => (try dsimp only); skip
                                                                          case q1_28t =>
                                                                            clear hK K
                                                                            try simp only [Act.put, List.getElem_toArray, List.getElem_cons_succ, List.getElem_cons_zero, List.setIfInBounds_toArray, List.set_cons_zero, List.set_cons_succ]
                                                                            refine wpAnyH_ready (rs := [24]) (by kernel_rfl) (by simp) ?q1_29g
                                                                            case q1_29g =>
                                                                              refine AllReadyH.cons (o := _) rfl (fun K hK => ?q1_29k) AllReadyH.nil
                                                                              case q1_29k =>
                                                                                go_simp
                                                                                (first | ((with_reducible refine (l8.out _ hs.out).mono ?_); rintro e w9 ⟨rfl, h9⟩; rw [h9]; clear h9 w9) | ((with_reducible refine (l9.out _ hs.out).mono ?_); rintro e w9 ⟨rfl, h9⟩; rw [h9]; clear h9 w9) | ((with_reducible refine (l10.out _ hs.out).mono ?_); rintro e w9 ⟨rfl, h9⟩; rw [h9]; clear h9 w9) | ((with_reducible refine (l11.out _ hs.out).mono ?_); rintro e w9 ⟨rfl, h9⟩; rw [h9]; clear h9 w9) | ((with_reducible refine (l12.out _ hs.out).mono ?_); rintro e w9 ⟨rfl, h9⟩; rw [h9]; clear h9 w9) | ((with_reducible refine (l13.out _ hs.out).mono ?_); rintro e w9 ⟨rfl, h9⟩; rw [h9]; clear h9 w9))
                                                                                refine hK.out _ _ ?q1_29s (fun hHeld => ?q1_29t)
                                                                                case q1_29s => (try dsimp only); skip
                                                                                case q1_29t =>
                                                                                  clear hK K
                                                                                  try simp only [Act.put, List.getElem_toArray, List.getElem_cons_succ, List.getElem_cons_zero, List.setIfInBounds_toArray, List.set_cons_zero, List.set_cons_succ]
                                                                                  refine wpAnyH_ready (rs := [29]) (by kernel_rfl) (by simp) ?q1_30g
                                                                                  case q1_30g =>
                                                                                    refine AllReadyH.cons (o := _) rfl (fun K hK => ?q1_30k) AllReadyH.nil
                                                                                    case q1_30k =>
                                                                                      go_simp
                                                                                      (first | ((with_reducible refine (l8.out _ hs.out).mono ?_); rintro e w9 ⟨rfl, h9⟩; rw [h9]; clear h9 w9) | ((with_reducible refine (l9.out _ hs.out).mono ?_); rintro e w9 ⟨rfl, h9⟩; rw [h9]; clear h9 w9) | ((with_reducible refine (l10.out _ hs.out).mono ?_); rintro e w9 ⟨rfl, h9⟩; rw [h9]; clear h9 w9) | ((with_reducible refine (l11.out _ hs.out).mono ?_); rintro e w9 ⟨rfl, h9⟩; rw [h9]; clear h9 w9) | ((with_reducible refine (l12.out _ hs.out).mono ?_); rintro e w9 ⟨rfl, h9⟩; rw [h9]; clear h9 w9) | ((with_reducible refine (l13.out _ hs.out).mono ?_); rintro e w9 ⟨rfl, h9⟩; rw [h9]; clear h9 w9))
                                                                                      refine hK.out _ _ ?q1_30s (fun hHeld => ?q1_30t)
                                                                                      case q1_30s => (try dsimp only); skip
                                                                                      case q1_30t =>
                                                                                        clear hK K
                                                                                        try simp only [Act.put, List.getElem_toArray, List.getElem_cons_succ, List.getElem_cons_zero, List.setIfInBounds_toArray, List.set_cons_zero, List.set_cons_succ]
                                                                                        refine wpAnyH_take (i := 30) (oi := _) (v := ?q1_31v) rfl (by kernel_rfl) (by kernel_rfl) (by kernel_rfl) (fun _ _ _ h => h) (Or.inl ⟨by rfl, ?q1_31y⟩) (by assumption) ?q1_31r
                                                                                        case q1_31y => (intro w0 hSw; (try dsimp only at hSw); go_simp; try (with_reducible rfl))
                                                                                        case q1_31r =>
                                                                                          simp only [Act.put, List.getElem_toArray, List.getElem_cons_succ, List.getElem_cons_zero, List.setIfInBounds_toArray, List.set_cons_zero, List.set_cons_succ]
                                                                                          refine wpAnyH_ready (rs := [31]) (by kernel_rfl) (by simp) ?q1_32g
                                                                                          case q1_32g =>
                                                                                            refine AllReadyH.cons (o := _) rfl (fun K hK => ?q1_32k) AllReadyH.nil
                                                                                            case q1_32k =>
                                                                                              go_simp
                                                                                              refine hK.out _ _ ?q1_32s (fun hHeld => ?q1_32t)
                                                                                              case q1_32s => (try dsimp only); skip
                                                                                              case q1_32t =>
                                                                                                clear hK K
                                                                                                try simp only [Act.put, List.getElem_toArray, List.getElem_cons_succ, List.getElem_cons_zero, List.setIfInBounds_toArray, List.set_cons_zero, List.set_cons_succ]
                                                                                                refine wpAnyH_done (by kernel_rfl) ?q1z _
                                                                                                case q1z =>
                                                                                                  go_wp2_with fail
                                                                                                  refine bodyPost_ret (v := .agg #[.int .i64 (A.reads : Nat), .int .i64 (A.programs : Nat), .int .i64 (A.erases : Nat), .int .i64 A.flips, .int .i64 (A.fails : Nat), .int .i64 (A.cuts : Nat)]) (by simp [results, Try.results15, go_sem]) rfl ⟨rfl, ((Keeps.refl Nil w).alloc _).drew⟩
theorem shapeI_any {w0 w : World} {ab b : Nat} {A : Nd} {O : Nat → Prop} (h : NdO w0 w ab A b O) : Calls Try.prog 48 #[.pointer (some ⟨ab, 0, none⟩)] w fun e w' => e = .returned (.agg #[.int .i64 (A.S.dies : Nat), .int .i64 (A.S.blocks : Nat), .int .i64 (A.S.pages : Nat), .int .i64 (A.S.bytes : Nat)]) ∧ Keeps Nil w w' := by
  obtain ⟨bb, bc, db, pb, fa, fc, L, hB⟩ := h.at'
  exact shape48 hB
theorem eventsI_any {w0 w : World} {ab b : Nat} {A : Nd} {O : Nat → Prop} (h : NdO w0 w ab A b O) : Calls Try.prog 15 #[.pointer (some ⟨ab, 0, none⟩)] w fun e w' => e = .returned (.agg (evCells A)) ∧ Keeps Nil w w' := by
  obtain ⟨bb, bc, db, pb, fa, fc, L, hB⟩ := h.at'
  exact events15 hB
end Go.Proofs.Ytglpacdenfoicaa
