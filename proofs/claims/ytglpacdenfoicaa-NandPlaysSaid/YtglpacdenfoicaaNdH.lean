/- nand: a page is programmed: whole, or a part of it -/
import Derived.Test.YtglpacdenfoicaaNdG
namespace Go.Proofs.Ytglpacdenfoicaa
open Go.RowKit

variable {w w' : World} {ab bb bc fc : Nat} {db : Nat → Nat} {pb : Nat → Nat → Nat} {fa : Option Addr} {L : List Fx} {A A' : Nd} {O T : Nat → Prop}
theorem Step.trans {w w1 : World} {r : Ending} {A2 : Nd} {e : Ending} {O' : Nat → Prop} (hk : Keeps O w w1) (hO : ∀ k, O' k → O k ∨ w.heap.size ≤ k) (h : Step w1 ab bb bc db pb fa fc O' r A2 e w') : Step w ab bb bc db pb fa fc O r A2 e w' := by
  obtain ⟨h1, L2, O2, h2, h3, h4⟩ := h
  refine ⟨h1, L2, O2, h2, hk.trans' h3 hO, fun k hk2 => ?_⟩
  rcases h4 k hk2 with h | h
  · exact hO k h
  · exact .inr (Nat.le_trans hk.size h)
/-- a page was made, and is put into its block -/
theorem put_end {w w9 : World} {d n p x c : Nat} {l : List Int} {r : Ending} {O3 : Nat → Prop} (h : NdB w9 ab (A.setB d n ((A.B d n).at ((p : Int) + 1))) bb bc db pb fa fc L O3) (hd : d < A.S.dies) (hn : n < A.S.blocks) (hp : p < A.S.pages) (k1 : Keeps O w w9) (hO : ∀ k, O3 k → O k ∨ w.heap.size ≤ k)
    (hx : NumRow .u8 w9 5 (some ⟨x, 0, none⟩) c l) (hxn : w.heap.size ≤ x) (k9 : Keeps Nil (w9.setCell ⟨pb d n, p, none⟩ (.slice (some ⟨x, 0, none⟩) l.length c)) w') :
    Step w ab bb bc db pb fa fc O r (A.progOk d n p l) r w' := by
  have h2 := h.putPage (d := d) (n := n) (p := p) hd hn hp hx
  rw [Nd.setB_same, Nd.setB_setB] at h2
  have ks := (Keeps.refl (fun k => k = pb d n) w9).setCell (p := ⟨pb d n, p, none⟩) (.inl rfl) (.slice (some ⟨x, 0, none⟩) l.length c)
  refine ⟨rfl, L, _, h2.keeps k9 (fun _ _ h => h), (k1.trans' ks (fun j hj => by rw [hj]; exact hO _ (h.ownP d n hd hn))).trans (k9.mono (fun _ h => h.elim)), fun k hk => ?_⟩
  rcases hk with hk | hk
  · exact hO k hk
  · exact .inr (by rw [hk]; exact hxn)
set_option maxHeartbeats 4000000 in
set_option maxRecDepth 100000 in
theorem whole30 {qb : Nat} {xa : Option Addr} {xc d n p : Nat} {op : Int} {l : List Int} (h : NdB w ab A bb bc db pb fa fc L O) (hok : A.Ok) (hd : d < A.S.dies) (hn : n < A.S.blocks) (hp : p < A.S.pages)
    (hq : w.heap[qb]? = some (.cells (pgrCells ab (db d) (n * 3) d n p xa l.length xc) 87 (0, 0))) (hqO : ¬ O qb) (hx : NumsAt .u8 w xa l) (hxO : ∀ g, blk xa = some g → ¬ O g) (hl : l.length = A.S.bytes) :
    Calls Try.prog 30 #[.pointer (some ⟨qb, 0, none⟩), .int .i64 op] w (Step w ab bb bc db pb fa fc O (.returned (.int .i64 (A.progW op d n p l).1)) (A.progW op d n p l).2) := by
  have hB := bad59 (op := op) h hok hd hn hp hq hqO
  have hqO' := Lib.hid hqO
  have hx' := Lib.hid hx
  have hxO' := Lib.hid hxO
  have hok' := Lib.hid hok
  have hq' := Lib.hid hq
  have hl' := Lib.hid hl
  have hxn := Lib.hid (show xa ≠ none from fun e => by
    have := hok.S.n1
    obtain ⟨b, off, h1, _⟩ := hx 0 (by omega)
    rw [e] at h1; cases h1)
  cases hbad : A.badP op d n 2 with
  | true =>
    have hR : A.progW op d n p l = (43, A.progMid op d n p) := by unfold Nd.progW Nd.progMid; rw [hbad, if_pos rfl, if_pos rfl]
    rw [hR]
    rw [hbad] at hB
    obtain ⟨A2, hA2⟩ : ∃ A2, A.progMid op d n p = A2 := ⟨_, rfl⟩
    simp only
    rw [hA2] at hB ⊢
    have hB' := Lib.hid hB
    clear hB h hok hq hqO hx hxO hR hbad hA2 hl
    go_enter Try.func30, Try.ntmps30
    go_wp2_with fail
    refine (hB'.out).mono ?_
    rintro e w3 ⟨rfl, hE⟩
    have hE' := Lib.hid hE
    clear hE
    go_wp2_with fail
    go_ret
    exact ⟨rfl, hE'.out⟩
  | false =>
    have hR : A.progW op d n p l = (0, A.progOk d n p l) := by unfold Nd.progW; rw [hbad]; rfl
    have hM : A.progMid op d n p = A.setB d n ((A.B d n).at ((p : Int) + 1)) := by unfold Nd.progMid; rw [hbad]; rfl
    rw [hR]
    rw [hbad, hM] at hB
    obtain ⟨A2, hA2⟩ : ∃ A2, A.progOk d n p l = A2 := ⟨_, rfl⟩
    simp only
    rw [hA2]
    have hA2' := Lib.hid hA2
    have hB' := Lib.hid hB
    clear hB h hok hq hqO hx hxO hR hbad hA2 hM hl
    go_enter Try.func30, Try.ntmps30
    go_wp2_with fail
    refine (hB'.out).mono ?_
    rintro e w3 ⟨rfl, L3, O3, hN3, k3, hO3⟩
    have hq3 := k3.heap hq'.out hqO'.out
    have hx3 := hx'.out.keeps k3 hxO'.out
    have hC := Lib.hid (clone60 (hx3.keeps (S := Nil) (Keeps.refl Nil w3).drew (fun _ _ h => h)) (cap := xc) (fun e => absurd e hxn.out) (by have := hok'.out.S.n2; have := hl'.out; omega))
    have q1 := cell_of_heap hq3 1
    have q4 := cell_of_heap hq3 4
    have q5 := cell_of_heap hq3 5
    simp only [pgrCells, List.getElem?_toArray, List.getElem?_cons_zero, List.getElem?_cons_succ] at q1 q4 q5
    have d0 : w3.cell? ⟨db d, n * 3, none⟩ = some (.slice (some ⟨pb d n, 0, none⟩) A.S.pages A.S.pages) := (hN3.cellD hd hn).1
    obtain ⟨v, hv, _, hvf⟩ := hN3.cellP hd hn hp
    obtain ⟨cs, hcs⟩ := hN3.heapD hd
    obtain ⟨ps, hps⟩ := hN3.heapP hd hn
    have hvl := lt_of_heap hps
    have e1 : ¬ db d = pb d n := cells_ne hcs hps (by decide)
    have e2 : ¬ qb = pb d n := cells_ne hq3 hps (by decide)
    have hS5 := Lib.hid (fun (W : World) (hW : Keeps (· = pb d n) w3 W) => (show W.cell? ⟨qb, 1, none⟩ = some (.pointer (some ⟨db d, n * 3, none⟩)) ∧ W.cell? ⟨qb, 4, none⟩ = some (.int .i64 (p : Nat)) ∧ W.cell? ⟨qb, 5, none⟩ = some (.slice xa l.length xc) ∧ W.cell? ⟨db d, n * 3, none⟩ = some (.slice (some ⟨pb d n, 0, none⟩) A.S.pages A.S.pages) from
      ⟨hW.cell q1 e2, hW.cell q4 e2, hW.cell q5 e2, hW.cell d0 e1⟩))
    have hvv := Lib.hid (fun (W : World) (hW : Keeps Nil w3 W) => (show W.cell? ⟨pb d n, p, none⟩ = some v ∧ W.frozen? ⟨pb d n, p, none⟩ = false from ⟨hW.cell hv (fun h => h), hW.frozen (hvf p) hvl (fun h => h)⟩))
    have hN3' := Lib.hid hN3
    have k3' := Lib.hid k3
    have hO3' := Lib.hid hO3
    have hp64 := hok'.out.S.p2
    clear hN3 k3 hO3 hq3 hx3 q1 q4 q5 d0 hv hvf hcs hps e1 e2 hB'
    go_wp2_with fail
    refine wp_region_held_drew (S := fun W => W.cell? ⟨qb, 1, none⟩ = some (.pointer (some ⟨db d, n * 3, none⟩)) ∧ W.cell? ⟨qb, 4, none⟩ = some (.int .i64 (p : Nat)) ∧ W.cell? ⟨qb, 5, none⟩ = some (.slice xa l.length xc) ∧ W.cell? ⟨db d, n * 3, none⟩ = some (.slice (some ⟨pb d n, 0, none⟩) A.S.pages A.S.pages)) (by kernel_rfl) ?q1a (fun hHeld => ?q1b)
    case q1a => (try dsimp only); first | exact hS5.out _ (Keeps.refl (· = pb d n) w3).drew | exact hS5.out _ (k9d.out.mono (fun _ h => h.elim)) | exact hS5.out _ ((k9d.out.mono (T := (· = pb d n)) (fun _ h => h.elim)).setCell (p := ⟨pb d n, p, none⟩) (.inl rfl) _)
    case q1b =>
      refine wpAnyH_take (i := 0) (oi := _) (v := ?q1_1v) rfl (by kernel_rfl) (by kernel_rfl) (by kernel_rfl) (fun _ _ _ h => h) (Or.inl ⟨by rfl, ?q1_1y⟩) (by assumption) ?q1_1r
      case q1_1y => (intro w0 hSw; (try dsimp only at hSw); go_simp; try (with_reducible rfl))
      case q1_1r =>
        simp only [Act.put, List.getElem_toArray, List.getElem_cons_zero, List.setIfInBounds_toArray, List.set_cons_zero, List.set_cons_succ]
        refine wpAnyH_take (i := 1) (oi := _) (v := ?q1_2v) rfl (by kernel_rfl) (by kernel_rfl) (by kernel_rfl) (fun _ _ _ h => h) (Or.inl ⟨by rfl, ?q1_2y⟩) (by assumption) ?q1_2r
        case q1_2y => (intro w0 hSw; (try dsimp only at hSw); go_simp; try (with_reducible rfl))
        case q1_2r =>
          simp only [Act.put, List.getElem_toArray, List.getElem_cons_succ, List.getElem_cons_zero, List.setIfInBounds_toArray, List.set_cons_zero, List.set_cons_succ]
          refine wpAnyH_take (i := 2) (oi := _) (v := ?q1_3v) rfl (by kernel_rfl) (by kernel_rfl) (by kernel_rfl) (fun _ _ _ h => h) (Or.inl ⟨by rfl, ?q1_3y⟩) (by assumption) ?q1_3r
          case q1_3y => (intro w0 hSw; (try dsimp only at hSw); go_simp; try (with_reducible rfl))
          case q1_3r =>
            simp only [Act.put, List.getElem_toArray, List.getElem_cons_succ, List.getElem_cons_zero, List.setIfInBounds_toArray, List.set_cons_zero, List.set_cons_succ]
            refine wpAnyH_take (i := 3) (oi := _) (v := ?q1_4v) rfl (by kernel_rfl) (by kernel_rfl) (by kernel_rfl) (fun _ _ _ h => h) (Or.inl ⟨by rfl, ?q1_4y⟩) (by assumption) ?q1_4r
            case q1_4y => (intro w0 hSw; (try dsimp only at hSw); go_simp; try (with_reducible rfl))
            case q1_4r =>
              simp only [Act.put, List.getElem_toArray, List.getElem_cons_succ, List.getElem_cons_zero, List.setIfInBounds_toArray, List.set_cons_zero, List.set_cons_succ]
              refine wpAnyH_take (i := 4) (oi := _) (v := ?q1_5v) rfl (by kernel_rfl) (by kernel_rfl) (by kernel_rfl) (fun _ _ _ h => h) (Or.inl ⟨by rfl, ?q1_5y⟩) (by assumption) ?q1_5r
              case q1_5y => (intro w0 hSw; (try dsimp only at hSw); go_simp; try (with_reducible rfl))
              case q1_5r =>
                simp only [Act.put, List.getElem_toArray, List.getElem_cons_succ, List.getElem_cons_zero, List.setIfInBounds_toArray, List.set_cons_zero, List.set_cons_succ]
                refine wpAnyH_take (i := 5) (oi := _) (v := ?q1_6v) rfl (by kernel_rfl) (by kernel_rfl) (by kernel_rfl) (fun _ _ _ h => h) (Or.inl ⟨by rfl, ?q1_6y⟩) (by assumption) ?q1_6r
                case q1_6y => (intro w0 hSw; (try dsimp only at hSw); go_simp; try (with_reducible rfl))
                case q1_6r =>
                  simp only [Act.put, List.getElem_toArray, List.getElem_cons_succ, List.getElem_cons_zero, List.setIfInBounds_toArray, List.set_cons_zero, List.set_cons_succ]
                  refine wpAnyH_take (i := 6) (oi := _) (v := ?q1_7v) rfl (by kernel_rfl) (by kernel_rfl) (by kernel_rfl) (fun _ _ _ h => h) (Or.inl ⟨by rfl, ?q1_7y⟩) (by assumption) ?q1_7r
                  case q1_7y => (intro w0 hSw; (try dsimp only at hSw); go_simp; try (with_reducible rfl))
                  case q1_7r =>
                    simp only [Act.put, List.getElem_toArray, List.getElem_cons_succ, List.getElem_cons_zero, List.setIfInBounds_toArray, List.set_cons_zero, List.set_cons_succ]
                    refine wpAnyH_take (i := 7) (oi := _) (v := ?q1_8v) rfl (by kernel_rfl) (by kernel_rfl) (by kernel_rfl) (fun _ _ _ h => h) (Or.inl ⟨by rfl, ?q1_8y⟩) (by assumption) ?q1_8r
                    case q1_8y => (intro w0 hSw; (try dsimp only at hSw); go_simp; try (with_reducible rfl))
                    case q1_8r =>
                      simp only [Act.put, List.getElem_toArray, List.getElem_cons_succ, List.getElem_cons_zero, List.setIfInBounds_toArray, List.set_cons_zero, List.set_cons_succ]
                      refine wpAnyH_take (i := 8) (oi := _) (v := ?q1_9v) rfl (by kernel_rfl) (by kernel_rfl) (by kernel_rfl) (fun _ _ _ h => h) (Or.inl ⟨by rfl, ?q1_9y⟩) (by assumption) ?q1_9r
                      case q1_9y => (intro w0 hSw; (try dsimp only at hSw); go_simp; try (with_reducible rfl))
                      case q1_9r =>
                        simp only [Act.put, List.getElem_toArray, List.getElem_cons_succ, List.getElem_cons_zero, List.setIfInBounds_toArray, List.set_cons_zero, List.set_cons_succ]
                        refine wpAnyH_take (i := 9) (oi := _) (v := ?q1_10v) rfl (by kernel_rfl) (by kernel_rfl) (by kernel_rfl) (fun _ _ _ h => h) (Or.inl ⟨by rfl, ?q1_10y⟩) (by assumption) ?q1_10r
                        case q1_10y => (intro w0 hSw; (try dsimp only at hSw); go_simp; try (with_reducible rfl))
                        case q1_10r =>
                          simp only [Act.put, List.getElem_toArray, List.getElem_cons_succ, List.getElem_cons_zero, List.setIfInBounds_toArray, List.set_cons_zero, List.set_cons_succ]
                          refine wpAnyH_take (i := 10) (oi := _) (v := ?q1_11v) rfl (by kernel_rfl) (by kernel_rfl) (by kernel_rfl) (fun _ _ _ h => h) (Or.inl ⟨by rfl, ?q1_11y⟩) (by assumption) ?q1_11r
                          case q1_11y => (intro w0 hSw; (try dsimp only at hSw); go_simp; try (with_reducible rfl))
                          case q1_11r =>
                            simp only [Act.put, List.getElem_toArray, List.getElem_cons_succ, List.getElem_cons_zero, List.setIfInBounds_toArray, List.set_cons_zero, List.set_cons_succ]
                            refine wpAnyH_take (i := 11) (oi := _) (v := ?q1_12v) rfl (by kernel_rfl) (by kernel_rfl) (by kernel_rfl) (fun _ _ _ h => h) (Or.inl ⟨by rfl, ?q1_12y⟩) (by assumption) ?q1_12r
                            case q1_12y => (intro w0 hSw; (try dsimp only at hSw); go_simp; try (with_reducible rfl))
                            case q1_12r =>
                              simp only [Act.put, List.getElem_toArray, List.getElem_cons_succ, List.getElem_cons_zero, List.setIfInBounds_toArray, List.set_cons_zero, List.set_cons_succ]
                              refine wpAnyH_take (i := 12) (oi := _) (v := ?q1_13v) rfl (by kernel_rfl) (by kernel_rfl) (by kernel_rfl) (fun _ _ _ h => h) (Or.inl ⟨by rfl, ?q1_13y⟩) (by assumption) ?q1_13r
                              case q1_13y => (intro w0 hSw; (try dsimp only at hSw); go_simp; try (with_reducible rfl))
                              case q1_13r =>
                                simp only [Act.put, List.getElem_toArray, List.getElem_cons_succ, List.getElem_cons_zero, List.setIfInBounds_toArray, List.set_cons_zero, List.set_cons_succ]
                                refine wpAnyH_take (i := 13) (oi := _) (v := ?q1_14v) rfl (by kernel_rfl) (by kernel_rfl) (by kernel_rfl) (fun _ _ _ h => h) (Or.inl ⟨by rfl, ?q1_14y⟩) (by assumption) ?q1_14r
                                case q1_14y => (intro w0 hSw; (try dsimp only at hSw); go_simp; try (with_reducible rfl))
                                case q1_14r =>
                                  simp only [Act.put, List.getElem_toArray, List.getElem_cons_succ, List.getElem_cons_zero, List.setIfInBounds_toArray, List.set_cons_zero, List.set_cons_succ]
                                  refine wpAnyH_take (i := 14) (oi := _) (v := ?q1_15v) rfl (by kernel_rfl) (by kernel_rfl) (by kernel_rfl) (fun _ _ _ h => h) (Or.inl ⟨by rfl, ?q1_15y⟩) (by assumption) ?q1_15r
                                  case q1_15y => (intro w0 hSw; (try dsimp only at hSw); go_simp; try (with_reducible rfl))
                                  case q1_15r =>
                                    simp only [Act.put, List.getElem_toArray, List.getElem_cons_succ, List.getElem_cons_zero, List.setIfInBounds_toArray, List.set_cons_zero, List.set_cons_succ]
                                    refine wpAnyH_ready (rs := [15]) (by kernel_rfl) (by simp) ?q1_16g
                                    case q1_16g =>
                                      refine AllReadyH.cons (o := _) rfl (fun K hK => ?q1_16k) AllReadyH.nil
                                      case q1_16k =>
                                        go_simp
                                        (refine (hC.out).mono ?_; rintro e w9 ⟨a9, c9, rfl, hr9, hk9, hn9, hi9⟩; rcases RowAt.form hr9 with ⟨z1, _⟩ | ⟨g, cur, rfl, _⟩; exact absurd (hi9.2 z1) hxn.out; have k9d := Lib.hid ((Keeps.refl Nil w3).drew.trans hk9); have hr9' := Lib.hid hr9; have hn9' := Lib.hid (hn9 g rfl); obtain ⟨hv9, hvf9⟩ := hvv.out w9 k9d.out; clear hr9 hk9 hn9 hi9)
                                        refine hK.out _ _ ?q1_16s (fun hHeld => ?q1_16t)
                                        case q1_16s => (try dsimp only); first | exact hS5.out _ (Keeps.refl (· = pb d n) w3).drew | exact hS5.out _ (k9d.out.mono (fun _ h => h.elim)) | exact hS5.out _ ((k9d.out.mono (T := (· = pb d n)) (fun _ h => h.elim)).setCell (p := ⟨pb d n, p, none⟩) (.inl rfl) _)
                                        case q1_16t =>
                                          clear hK K
                                          try simp only [Act.put, List.getElem_toArray, List.getElem_cons_succ, List.getElem_cons_zero, List.setIfInBounds_toArray, List.set_cons_zero, List.set_cons_succ]
                                          refine wpAnyH_ready (rs := [16]) (by kernel_rfl) (by simp) ?q1_17g
                                          case q1_17g =>
                                            refine AllReadyH.cons (o := _) rfl (fun K hK => ?q1_17k) AllReadyH.nil
                                            case q1_17k =>
                                              go_simp
                                              refine hK.out _ _ ?q1_17s (fun hHeld => ?q1_17t)
                                              case q1_17s => (try dsimp only); first | exact hS5.out _ (Keeps.refl (· = pb d n) w3).drew | exact hS5.out _ (k9d.out.mono (fun _ h => h.elim)) | exact hS5.out _ ((k9d.out.mono (T := (· = pb d n)) (fun _ h => h.elim)).setCell (p := ⟨pb d n, p, none⟩) (.inl rfl) _)
                                              case q1_17t =>
                                                clear hK K
                                                try simp only [Act.put, List.getElem_toArray, List.getElem_cons_succ, List.getElem_cons_zero, List.setIfInBounds_toArray, List.set_cons_zero, List.set_cons_succ]
                                                refine wpAnyH_ready (rs := [17]) (by kernel_rfl) (by simp) ?q1_18g
                                                case q1_18g =>
                                                  refine AllReadyH.cons (o := _) rfl (fun K hK => ?q1_18k) AllReadyH.nil
                                                  case q1_18k =>
                                                    go_simp
                                                    refine hK.out _ _ ?q1_18s (fun hHeld => ?q1_18t)
                                                    case q1_18s => (try dsimp only); first | exact hS5.out _ (Keeps.refl (· = pb d n) w3).drew | exact hS5.out _ (k9d.out.mono (fun _ h => h.elim)) | exact hS5.out _ ((k9d.out.mono (T := (· = pb d n)) (fun _ h => h.elim)).setCell (p := ⟨pb d n, p, none⟩) (.inl rfl) _)
                                                    case q1_18t =>
                                                      clear hK K
                                                      try simp only [Act.put, List.getElem_toArray, List.getElem_cons_succ, List.getElem_cons_zero, List.setIfInBounds_toArray, List.set_cons_zero, List.set_cons_succ]
                                                      refine wpAnyH_done (by kernel_rfl) ?q1z _
                                                      case q1z =>
                                                        go_wp2_with fail
                                                        go_ret
                                                        rw [← hA2'.out]
                                                        exact put_end (hN3'.out.keeps k9d.out (fun _ _ h => h)) hd hn hp (k3'.out.trans' k9d.out (fun _ h => h.elim)) hO3'.out hr9'.out (Nat.le_trans k3'.out.size hn9'.out) (Keeps.refl _ _)
end Go.Proofs.Ytglpacdenfoicaa
