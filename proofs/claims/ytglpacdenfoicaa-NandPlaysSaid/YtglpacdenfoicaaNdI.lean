/- nand: a page is programmed in part, at a cut -/
import Derived.Test.YtglpacdenfoicaaNdH
namespace Go.Proofs.Ytglpacdenfoicaa
open Go.RowKit

variable {w w' : World} {ab bb bc fc : Nat} {db : Nat → Nat} {pb : Nat → Nat → Nat} {fa : Option Addr} {L : List Fx} {A A' : Nd} {O T : Nat → Prop}
theorem cut_splice {l : List Int} {m n : Nat} : splice (List.replicate n (Value.int .u8 255)) 0 ((l.take m).map (Value.int .u8)) = (cutAt m n l).map (Value.int .u8) := by
  unfold splice cutAt
  rw [List.take_zero, List.nil_append, List.map_append, List.drop_replicate, List.map_replicate, List.length_map, Nat.zero_add]
theorem cutAt_len {l : List Int} {m n : Nat} (hl : l.length = n) : (cutAt m n l).length = n := by
  unfold cutAt
  rw [List.length_append, List.length_replicate, List.length_take]
  omega
theorem cutAt_min {l : List Int} {m n : Nat} (hl : l.length = n) : cutAt (min m n) n l = cutAt m n l := by
  unfold cutAt
  rw [← hl, List.take_eq_take_min (l := l) (i := m)]
theorem numRow_heap {g n : Nat} {l : List Int} (h : w.heap[g]? = some (.cells (l.map (Value.int .u8)).toArray 5 (0, 0))) (hl : l.length = n) (hn : n ≤ 100000) : NumRow .u8 w 5 (some ⟨g, 0, none⟩) n l := by
  subst hl
  exact ⟨by simp, .inr ⟨g, l.length, _, rfl, Nat.zero_le _, h, Nat.le_refl _, by unfold maxLen; omega, by simp, by rw [Nat.mul_one]; exact List.take_of_length_le (by simp)⟩⟩
theorem numRow_full {g n : Nat} {l : List Int} (h : NumRow .u8 w 5 (some ⟨g, 0, none⟩) n l) (hl : l.length = n) : w.heap[g]? = some (.cells (l.map (Value.int .u8)).toArray 5 (0, 0)) := by
  rcases RowAt.form h with ⟨h1, _⟩ | ⟨g', cur, h1, _, h2, h3, h4⟩
  · cases h1
  · cases h1
    rw [hl, Nat.mul_one] at h4
    rw [h2]
    congr 2
    apply Array.toList_inj.1
    rw [← h4, List.take_of_length_le (by simp; omega)]
set_option maxHeartbeats 4000000 in
set_option maxRecDepth 100000 in
theorem part31 {qb : Nat} {xa : Option Addr} {xc d n p pt : Nat} {op : Int} {l : List Int} (h : NdB w ab A bb bc db pb fa fc L O) (hok : A.Ok) (hd : d < A.S.dies) (hn : n < A.S.blocks) (hp : p < A.S.pages)
    (hq : w.heap[qb]? = some (.cells (pgrCells ab (db d) (n * 3) d n p xa l.length xc) 87 (0, 0))) (hqO : ¬ O qb) (hx : NumsAt .u8 w xa l) (hxO : ∀ g, blk xa = some g → ¬ O g) (hl : l.length = A.S.bytes) (hxc : l.length ≤ xc) :
    Calls Try.prog 31 #[.pointer (some ⟨qb, 0, none⟩), .int .i64 op, .int .i64 (pt : Nat)] w (Step w ab bb bc db pb fa fc O (.returned (.tuple #[])) (A.progP op d n p l (pt : Nat))) := by
  have hB := bad59 (op := op) h hok hd hn hp hq hqO
  have hqO' := Lib.hid hqO
  have hx' := Lib.hid hx
  have hxO' := Lib.hid hxO
  have hok' := Lib.hid hok
  have hq' := Lib.hid hq
  have hl' := Lib.hid hl
  have hxn := Lib.hid (show ∃ xb xo, xa = some ⟨xb, xo, none⟩ from by
    have := hok.S.n1
    obtain ⟨b, off, h1, _⟩ := hx 0 (by omega)
    exact ⟨b, off, h1⟩)
  cases hbad : A.badP op d n 2 with
  | true =>
    have hR : A.progP op d n p l (pt : Nat) = A.progMid op d n p := by unfold Nd.progP Nd.progMid; rw [hbad, if_pos rfl, if_pos rfl]
    rw [hR]
    rw [hbad] at hB
    obtain ⟨A2, hA2⟩ : ∃ A2, A.progMid op d n p = A2 := ⟨_, rfl⟩
    rw [hA2] at hB ⊢
    have hB' := Lib.hid hB
    clear hB h hok hq hqO hx hxO hR hbad hA2 hl
    go_enter Try.func31, Try.ntmps31
    go_wp2_with fail
    refine (hB'.out).mono ?_
    rintro e w3 ⟨rfl, hE⟩
    have hE' := Lib.hid hE
    clear hE
    go_wp2_with fail
    go_end0
    exact ⟨rfl, hE'.out⟩
  | false =>
    have hR : A.progP op d n p l (pt : Nat) = A.progOk d n p (cutAt pt A.S.bytes l) := by unfold Nd.progP; rw [hbad]; rfl
    have hM : A.progMid op d n p = A.setB d n ((A.B d n).at ((p : Int) + 1)) := by unfold Nd.progMid; rw [hbad]; rfl
    rw [hR]
    rw [hbad, hM] at hB
    obtain ⟨A2, hA2⟩ : ∃ A2, A.progOk d n p (cutAt pt A.S.bytes l) = A2 := ⟨_, rfl⟩
    rw [hA2]
    have hA2' := Lib.hid hA2
    have hB' := Lib.hid hB
    have n1 := hok.S.n1
    have n2 := hok.S.n2
    obtain ⟨m, hm⟩ : ∃ m, min pt l.length = m := ⟨_, rfl⟩
    have hm1 : m ≤ l.length := by omega
    have hmx : m ≤ xc := by omega
    have hm' := Lib.hid hm
    have hmin : (if l.length < pt then (l.length : Int) else (pt : Int)) = (m : Int) := by split <;> omega
    clear hB h hok hq hqO hx hxO hR hbad hA2 hM hm hl
    go_enter Try.func31, Try.ntmps31
    go_wp2_with fail
    refine (hB'.out).mono ?_
    rintro e w3 ⟨rfl, L3, O3, hN3, k3, hO3⟩
    have hq3 := k3.heap hq'.out hqO'.out
    have hx3 := hx'.out.keeps k3 hxO'.out
    have hka := (Keeps.refl Nil w3).alloc (.cells #[.int .u8 255] 5)
    have q0 := hka.cell (cell_of_heap hq3 0) (fun h => h)
    have c3 : (w3.alloc (.cells #[.int .u8 255] 5)).cell? ⟨ab, 3, none⟩ = some (.int .i64 (A.S.bytes : Nat)) := hka.cell hN3.cellS (fun h => h)
    simp only [pgrCells] at q0
    have hRp := Lib.hid (repeat61 (w := w3.alloc (.cells #[.int .u8 255] 5)) (b := w3.heap.size) (n := A.S.bytes) n1 (by omega) (cell_new1 w3 _ _))
    have hka' := Lib.hid hka
    have hN3' := Lib.hid hN3
    have k3' := Lib.hid k3
    have hO3' := Lib.hid hO3
    have hq3' := Lib.hid hq3
    have hx3' := Lib.hid hx3
    clear hN3 k3 hO3 hq3 hx3 hka hB'
    go_wp2_with fail
    refine (hRp.out).mono ?_
    rintro e w4 ⟨g, rfl, hr4, hk4, hg4⟩
    have hk34 := hka'.out.trans hk4
    have hq4 := hk34.heap hq3'.out (fun h => h)
    have q5 := cell_of_heap hq4 5
    simp only [pgrCells, List.getElem?_toArray, List.getElem?_cons_zero, List.getElem?_cons_succ] at q5
    have hk34' := Lib.hid hk34
    have hr4' := Lib.hid hr4
    have hg4' := Lib.hid hg4
    have hq4' := Lib.hid hq4
    clear hr4 hk4 hg4 hk34 hq4 q0 c3 hRp
    go_wp2_with fail
    obtain ⟨xb, xo, hxa⟩ := hxn.out
    have hg5 := Lib.hid (numRow_full hr4'.out (by simp))
    have hql := lt_of_heap hq3'.out
    have hqg := Lib.hid (show qb < g from by have := hg4'.out; simp at this; omega)
    have hcs := Lib.hid (fun (j : Nat) (v : Value) (hj : ((l.take m).map (Value.int .u8))[j]? = some v) => (show w4.cell? ⟨xb, xo + j, none⟩ = some v from by
      have hjm : j < (l.take m).length := by have := (List.getElem?_eq_some_iff.1 hj).1; simpa using this
      have hjl : j < l.length := by rw [List.length_take] at hjm; omega
      obtain ⟨b, off, h1, h2⟩ := (hx3'.out.keeps hk34'.out (fun _ _ h => h)) j hjl
      rw [hxa] at h1
      cases h1
      rw [h2, gi_eq hjl]
      rw [List.getElem?_map, List.getElem?_eq_getElem hjm] at hj
      simp at hj
      rw [hj]))
    have hxa' := Lib.hid hxa
    rw [hxa] at q5
    have hS := Lib.hid (fun (W : World) (hW : Keeps (g ≤ ·) w4 W) => (show W.cell? ⟨qb, 5, none⟩ = some (.slice (some ⟨xb, xo, none⟩) l.length xc) from hW.cell q5 (by have := hqg.out; omega)))
    clear hxa hql q5
    refine wp_region_held_drew (S := fun W => W.cell? ⟨qb, 5, none⟩ = some (.slice (some ⟨xb, xo, none⟩) l.length xc)) (by kernel_rfl) ?q1a (fun hHeld => ?q1b)
    case q1a => (try dsimp only); first | exact hS.out _ (Keeps.refl (g ≤ ·) w4).drew | exact hS.out _ k5.out
    case q1b =>
      refine wpAnyH_take (i := 0) (oi := _) (v := ?q1_1v) rfl (by kernel_rfl) (by kernel_rfl) (by kernel_rfl) (fun _ _ _ h => h) (Or.inl ⟨by rfl, ?q1_1y⟩) (by assumption) ?q1_1r
      case q1_1y => (intro w0 hSw; (try dsimp only at hSw); go_simp; try (with_reducible rfl))
      case q1_1r =>
        simp only [Act.put, List.getElem_toArray, List.getElem_cons_zero, List.setIfInBounds_toArray, List.set_cons_zero, List.set_cons_succ]
        refine wpAnyH_take (i := 1) (oi := _) (v := ?q1_2v) rfl (by kernel_rfl) (by kernel_rfl) (by kernel_rfl) (fun _ _ _ h => h) (Or.inl ⟨by rfl, ?q1_2y⟩) (by assumption) ?q1_2r
        case q1_2y => (intro w0 hSw; (try dsimp only at hSw); go_simp; try (with_reducible rfl))
        case q1_2r =>
          simp only [Act.put, List.getElem_toArray, List.getElem_cons_succ, List.getElem_cons_zero, List.setIfInBounds_toArray, List.set_cons_zero, List.set_cons_succ]
          refine wpAnyH_take (i := 2) (oi := _) (v := ?q1_3v) rfl (by kernel_rfl) (by kernel_rfl) (by kernel_rfl) (fun _ _ _ h => h) (Or.inl ⟨by rfl, ?q1_3y⟩) (by assumption) ?q1_3r
          case q1_3y => (intro w0 hSw; (try dsimp only at hSw); go_simp; try (with_reducible rfl))
          case q1_3r =>
            simp only [Act.put, List.getElem_toArray, List.getElem_cons_succ, List.getElem_cons_zero, List.setIfInBounds_toArray, List.set_cons_zero, List.set_cons_succ]
            refine wpAnyH_take (i := 3) (oi := _) (v := ?q1_4v) rfl (by kernel_rfl) (by kernel_rfl) (by kernel_rfl) (fun _ _ _ h => h) (Or.inl ⟨by rfl, ?q1_4y⟩) (by assumption) ?q1_4r
            case q1_4y => (intro w0 hSw; (try dsimp only at hSw); go_simp; try (with_reducible rfl))
            case q1_4r =>
              simp only [Act.put, List.getElem_toArray, List.getElem_cons_succ, List.getElem_cons_zero, List.setIfInBounds_toArray, List.set_cons_zero, List.set_cons_succ]
              refine wpAnyH_take (i := 4) (oi := _) (v := ?q1_5v) rfl (by kernel_rfl) (by kernel_rfl) (by kernel_rfl) (fun _ _ _ h => h) (Or.inl ⟨by rfl, ?q1_5y⟩) (by assumption) ?q1_5r
              case q1_5y => (intro w0 hSw; (try dsimp only at hSw); go_simp; try (with_reducible rfl))
              case q1_5r =>
                simp only [Act.put, List.getElem_toArray, List.getElem_cons_succ, List.getElem_cons_zero, List.setIfInBounds_toArray, List.set_cons_zero, List.set_cons_succ]
                refine wpAnyH_take (i := 5) (oi := _) (v := ?q1_6v) rfl (by kernel_rfl) (by kernel_rfl) (by kernel_rfl) (fun _ _ _ h => h) (Or.inl ⟨by rfl, ?q1_6y⟩) (by assumption) ?q1_6r
                case q1_6y => (intro w0 hSw; (try dsimp only at hSw); go_simp; try (with_reducible rfl))
                case q1_6r =>
                  simp only [Act.put, List.getElem_toArray, List.getElem_cons_succ, List.getElem_cons_zero, List.setIfInBounds_toArray, List.set_cons_zero, List.set_cons_succ]
                  refine wpAnyH_take (i := 6) (oi := _) (v := ?q1_7v) rfl (by kernel_rfl) (by kernel_rfl) (by kernel_rfl) (fun _ _ _ h => h) (Or.inl ⟨by rfl, ?q1_7y⟩) (by assumption) ?q1_7r
                  case q1_7y => (intro w0 hSw; (try dsimp only at hSw); go_simp; try (with_reducible rfl))
                  case q1_7r =>
                    simp only [Act.put, List.getElem_toArray, List.getElem_cons_succ, List.getElem_cons_zero, List.setIfInBounds_toArray, List.set_cons_zero, List.set_cons_succ]
                    refine wpAnyH_take (i := 7) (oi := _) (v := ?q1_8v) rfl (by kernel_rfl) (by kernel_rfl) (by kernel_rfl) (fun _ _ _ h => h) (Or.inl ⟨by rfl, ?q1_8y⟩) (by assumption) ?q1_8r
                    case q1_8y => (intro w0 hSw; (try dsimp only at hSw); go_simp; try (with_reducible rfl))
                    case q1_8r =>
                      simp only [Act.put, List.getElem_toArray, List.getElem_cons_succ, List.getElem_cons_zero, List.setIfInBounds_toArray, List.set_cons_zero, List.set_cons_succ]
                      refine wpAnyH_take (i := 8) (oi := _) (v := ?q1_9v) rfl (by kernel_rfl) (by kernel_rfl) (by kernel_rfl) (fun _ _ _ h => h) (Or.inl ⟨by rfl, ?q1_9y⟩) (by assumption) ?q1_9r
                      case q1_9y => (intro w0 hSw; (try dsimp only at hSw); go_simp; try (with_reducible rfl))
                      case q1_9r =>
                        simp only [Act.put, List.getElem_toArray, List.getElem_cons_succ, List.getElem_cons_zero, List.setIfInBounds_toArray, List.set_cons_zero, List.set_cons_succ]
                        refine wpAnyH_take (i := 9) (oi := _) (v := ?q1_10v) rfl (by kernel_rfl) (by kernel_rfl) (by kernel_rfl) (fun _ _ _ h => h) (Or.inl ⟨by rfl, ?q1_10y⟩) (by assumption) ?q1_10r
                        case q1_10y => (intro w0 hSw; (try dsimp only at hSw); go_simp; try (with_reducible rfl))
                        case q1_10r =>
                          simp only [Act.put, List.getElem_toArray, List.getElem_cons_succ, List.getElem_cons_zero, List.setIfInBounds_toArray, List.set_cons_zero, List.set_cons_succ]
                          refine wpAnyH_take (i := 10) (oi := _) (v := ?q1_11v) rfl (by kernel_rfl) (by kernel_rfl) (by kernel_rfl) (fun _ _ _ h => h) (Or.inl ⟨by rfl, ?q1_11y⟩) (by assumption) ?q1_11r
                          case q1_11y => (intro w0 hSw; (try dsimp only at hSw); go_simp; try (with_reducible rfl))
                          case q1_11r =>
                            simp only [Act.put, List.getElem_toArray, List.getElem_cons_succ, List.getElem_cons_zero, List.setIfInBounds_toArray, List.set_cons_zero, List.set_cons_succ]
                            refine wpAnyH_take (i := 11) (oi := _) (v := ?q1_12v) rfl (by kernel_rfl) (by kernel_rfl) (by kernel_rfl) (fun _ _ _ h => h) (Or.inl ⟨by rfl, ?q1_12y⟩) (by assumption) ?q1_12r
                            case q1_12y => (intro w0 hSw; (try dsimp only at hSw); go_simp; try (with_reducible rfl))
                            case q1_12r =>
                              simp only [Act.put, List.getElem_toArray, List.getElem_cons_succ, List.getElem_cons_zero, List.setIfInBounds_toArray, List.set_cons_zero, List.set_cons_succ]
                              refine wpAnyH_take (i := 12) (oi := _) (v := ?q1_13v) rfl (by kernel_rfl) (by kernel_rfl) (by kernel_rfl) (fun _ _ _ h => h) (Or.inl ⟨by rfl, ?q1_13y⟩) (by assumption) ?q1_13r
                              case q1_13y => (intro w0 hSw; (try dsimp only at hSw); go_simp; try (with_reducible rfl))
                              case q1_13r =>
                                simp only [Act.put, List.getElem_toArray, List.getElem_cons_succ, List.getElem_cons_zero, List.setIfInBounds_toArray, List.set_cons_zero, List.set_cons_succ]
                                refine wpAnyH_ready (rs := [13]) (by kernel_rfl) (by simp) ?q1_14g
                                case q1_14g =>
                                  refine AllReadyH.cons (o := _) rfl (fun K hK => ?q1_14k) AllReadyH.nil
                                  case q1_14k =>
                                    (refine step_copy_splice rfl (.tmp 21) (.tmp 33) 22 22 rfl 5 Try.underlying22 size5 (some ⟨g, 0, none⟩) (some ⟨xb, xo, none⟩) A.S.bytes A.S.bytes m xc (by first | rfl | simp [Act.eval, Act.put]) (by first | rfl | simp [Act.eval, Act.put]) g 0 ((List.replicate A.S.bytes (255 : Int)).map (Value.int .u8)) 5 hg5.out ((l.take m).map (Value.int .u8)) (by rw [List.length_map, List.length_take]; show min m l.length = min m A.S.bytes; rw [hl'.out]) (fun _ => ⟨rfl, _, rfl, fun j v hj => (by rw [Addr.add_lit]; exact hcs.out j v hj)⟩) (by simp; have := hl'.out; omega) (by intro v hv; obtain ⟨z, _, rfl⟩ := List.mem_map.1 hv; rfl) g w4.drew (Below.refl _ _) (Nat.le_refl _) ?_; intro w5 hg6 hb5; have k5 := Lib.hid ((Keeps.refl (g ≤ ·) w4).drew.trans ⟨hb5.os, hb5.tape, hb5.output, hb5.size, fun i hi hn => hb5.block i (Nat.lt_of_not_le hn)⟩); clear hb5)
                                    refine hK.out _ _ ?q1_14s (fun hHeld => ?q1_14t)
                                    case q1_14s => (try dsimp only); first | exact hS.out _ (Keeps.refl (g ≤ ·) w4).drew | exact hS.out _ k5.out
                                    case q1_14t =>
                                      clear hK K
                                      try simp only [Act.put, List.getElem_toArray, List.getElem_cons_succ, List.getElem_cons_zero, List.setIfInBounds_toArray, List.set_cons_zero, List.set_cons_succ]
                                      refine wpAnyH_done (by kernel_rfl) ?q1z _
                                      case q1z =>
                                        go_wp2_with fail
                                        have hg7 := hg6.out
                                        rw [List.map_replicate, cut_splice, ← cutAt_min (m := m) hl'.out] at hg7
                                        have hmm : min m A.S.bytes = min pt A.S.bytes := by have := hm'.out; have := hl'.out; omega
                                        rw [hmm, cutAt_min hl'.out] at hg7
                                        have hg3 : w3.heap.size ≤ g := by have := hg4'.out; simp at this; omega
                                        have k35 := Lib.hid ((hk34'.out.trans' (S := Nil) k5.out (fun j hj => .inr (Nat.le_trans hg3 hj))))
                                        have hr5 := Lib.hid (numRow_heap hg7 (cutAt_len hl'.out) (by omega))
                                        have hq5 := k35.out.heap hq3'.out (fun h => h)
                                        have hN5 := Lib.hid (hN3'.out.keeps k35.out (fun _ _ h => h))
                                        have q1 := cell_of_heap hq5 1
                                        have q4 := cell_of_heap hq5 4
                                        simp only [pgrCells, List.getElem?_toArray, List.getElem?_cons_zero, List.getElem?_cons_succ] at q1 q4
                                        have d0 : w5.cell? ⟨db d, n * 3, none⟩ = some (.slice (some ⟨pb d n, 0, none⟩) A.S.pages A.S.pages) := (hN5.out.cellD hd hn).1
                                        obtain ⟨v, hv, _, hvf⟩ := hN5.out.cellP hd hn hp
                                        have hvf' := hvf p
                                        obtain ⟨cs, hcs2⟩ := hN5.out.heapD hd
                                        obtain ⟨ps, hps⟩ := hN5.out.heapP hd hn
                                        have e1 : ¬ db d = pb d n := cells_ne hcs2 hps (by decide)
                                        have e2 : ¬ qb = pb d n := cells_ne hq5 hps (by decide)
                                        have hS5 := Lib.hid (fun (W : World) (hW : Keeps (· = pb d n) w5 W) => (show W.cell? ⟨qb, 1, none⟩ = some (.pointer (some ⟨db d, n * 3, none⟩)) ∧ W.cell? ⟨qb, 4, none⟩ = some (.int .i64 (p : Nat)) ∧ W.cell? ⟨db d, n * 3, none⟩ = some (.slice (some ⟨pb d n, 0, none⟩) A.S.pages A.S.pages) from
                                          ⟨hW.cell q1 e2, hW.cell q4 e2, hW.cell d0 e1⟩))
                                        have hp64 := hok'.out.S.p2
                                        clear hg6 hg7 hmm hg3 hq5 q1 q4 d0 hvf hcs2 hps e1 e2 hmin
                                        refine wp_region_held_drew (S := fun W => W.cell? ⟨qb, 1, none⟩ = some (.pointer (some ⟨db d, n * 3, none⟩)) ∧ W.cell? ⟨qb, 4, none⟩ = some (.int .i64 (p : Nat)) ∧ W.cell? ⟨db d, n * 3, none⟩ = some (.slice (some ⟨pb d n, 0, none⟩) A.S.pages A.S.pages)) (by kernel_rfl) ?q2a (fun hHeld => ?q2b)
                                        case q2a => (try dsimp only); first | exact hS5.out _ (Keeps.refl (· = pb d n) w5).drew | exact hS5.out _ ((Keeps.refl (· = pb d n) w5).drew.setCell (p := ⟨pb d n, p, none⟩) (.inl rfl) _) | exact hS5.out _ ((Keeps.refl (· = pb d n) w5).setCell (p := ⟨pb d n, p, none⟩) (.inl rfl) _).drew
                                        case q2b =>
                                          refine wpAnyH_take (i := 0) (oi := _) (v := ?q2_1v) rfl (by kernel_rfl) (by kernel_rfl) (by kernel_rfl) (fun _ _ _ h => h) (Or.inl ⟨by rfl, ?q2_1y⟩) (by assumption) ?q2_1r
                                          case q2_1y => (intro w0 hSw; (try dsimp only at hSw); go_simp; try (with_reducible rfl))
                                          case q2_1r =>
                                            simp only [Act.put, List.getElem_toArray, List.getElem_cons_zero, List.setIfInBounds_toArray, List.set_cons_zero, List.set_cons_succ]
                                            refine wpAnyH_take (i := 1) (oi := _) (v := ?q2_2v) rfl (by kernel_rfl) (by kernel_rfl) (by kernel_rfl) (fun _ _ _ h => h) (Or.inl ⟨by rfl, ?q2_2y⟩) (by assumption) ?q2_2r
                                            case q2_2y => (intro w0 hSw; (try dsimp only at hSw); go_simp; try (with_reducible rfl))
                                            case q2_2r =>
                                              simp only [Act.put, List.getElem_toArray, List.getElem_cons_succ, List.getElem_cons_zero, List.setIfInBounds_toArray, List.set_cons_zero, List.set_cons_succ]
                                              refine wpAnyH_take (i := 2) (oi := _) (v := ?q2_3v) rfl (by kernel_rfl) (by kernel_rfl) (by kernel_rfl) (fun _ _ _ h => h) (Or.inl ⟨by rfl, ?q2_3y⟩) (by assumption) ?q2_3r
                                              case q2_3y => (intro w0 hSw; (try dsimp only at hSw); go_simp; try (with_reducible rfl))
                                              case q2_3r =>
                                                simp only [Act.put, List.getElem_toArray, List.getElem_cons_succ, List.getElem_cons_zero, List.setIfInBounds_toArray, List.set_cons_zero, List.set_cons_succ]
                                                refine wpAnyH_take (i := 3) (oi := _) (v := ?q2_4v) rfl (by kernel_rfl) (by kernel_rfl) (by kernel_rfl) (fun _ _ _ h => h) (Or.inl ⟨by rfl, ?q2_4y⟩) (by assumption) ?q2_4r
                                                case q2_4y => (intro w0 hSw; (try dsimp only at hSw); go_simp; try (with_reducible rfl))
                                                case q2_4r =>
                                                  simp only [Act.put, List.getElem_toArray, List.getElem_cons_succ, List.getElem_cons_zero, List.setIfInBounds_toArray, List.set_cons_zero, List.set_cons_succ]
                                                  refine wpAnyH_take (i := 4) (oi := _) (v := ?q2_5v) rfl (by kernel_rfl) (by kernel_rfl) (by kernel_rfl) (fun _ _ _ h => h) (Or.inl ⟨by rfl, ?q2_5y⟩) (by assumption) ?q2_5r
                                                  case q2_5y => (intro w0 hSw; (try dsimp only at hSw); go_simp; try (with_reducible rfl))
                                                  case q2_5r =>
                                                    simp only [Act.put, List.getElem_toArray, List.getElem_cons_succ, List.getElem_cons_zero, List.setIfInBounds_toArray, List.set_cons_zero, List.set_cons_succ]
                                                    refine wpAnyH_take (i := 5) (oi := _) (v := ?q2_6v) rfl (by kernel_rfl) (by kernel_rfl) (by kernel_rfl) (fun _ _ _ h => h) (Or.inl ⟨by rfl, ?q2_6y⟩) (by assumption) ?q2_6r
                                                    case q2_6y => (intro w0 hSw; (try dsimp only at hSw); go_simp; try (with_reducible rfl))
                                                    case q2_6r =>
                                                      simp only [Act.put, List.getElem_toArray, List.getElem_cons_succ, List.getElem_cons_zero, List.setIfInBounds_toArray, List.set_cons_zero, List.set_cons_succ]
                                                      refine wpAnyH_take (i := 6) (oi := _) (v := ?q2_7v) rfl (by kernel_rfl) (by kernel_rfl) (by kernel_rfl) (fun _ _ _ h => h) (Or.inl ⟨by rfl, ?q2_7y⟩) (by assumption) ?q2_7r
                                                      case q2_7y => (intro w0 hSw; (try dsimp only at hSw); go_simp; try (with_reducible rfl))
                                                      case q2_7r =>
                                                        simp only [Act.put, List.getElem_toArray, List.getElem_cons_succ, List.getElem_cons_zero, List.setIfInBounds_toArray, List.set_cons_zero, List.set_cons_succ]
                                                        refine wpAnyH_take (i := 7) (oi := _) (v := ?q2_8v) rfl (by kernel_rfl) (by kernel_rfl) (by kernel_rfl) (fun _ _ _ h => h) (Or.inl ⟨by rfl, ?q2_8y⟩) (by assumption) ?q2_8r
                                                        case q2_8y => (intro w0 hSw; (try dsimp only at hSw); go_simp; try (with_reducible rfl))
                                                        case q2_8r =>
                                                          simp only [Act.put, List.getElem_toArray, List.getElem_cons_succ, List.getElem_cons_zero, List.setIfInBounds_toArray, List.set_cons_zero, List.set_cons_succ]
                                                          refine wpAnyH_take (i := 8) (oi := _) (v := ?q2_9v) rfl (by kernel_rfl) (by kernel_rfl) (by kernel_rfl) (fun _ _ _ h => h) (Or.inl ⟨by rfl, ?q2_9y⟩) (by assumption) ?q2_9r
                                                          case q2_9y => (intro w0 hSw; (try dsimp only at hSw); go_simp; try (with_reducible rfl))
                                                          case q2_9r =>
                                                            simp only [Act.put, List.getElem_toArray, List.getElem_cons_succ, List.getElem_cons_zero, List.setIfInBounds_toArray, List.set_cons_zero, List.set_cons_succ]
                                                            refine wpAnyH_take (i := 9) (oi := _) (v := ?q2_10v) rfl (by kernel_rfl) (by kernel_rfl) (by kernel_rfl) (fun _ _ _ h => h) (Or.inl ⟨by rfl, ?q2_10y⟩) (by assumption) ?q2_10r
                                                            case q2_10y => (intro w0 hSw; (try dsimp only at hSw); go_simp; try (with_reducible rfl))
                                                            case q2_10r =>
                                                              simp only [Act.put, List.getElem_toArray, List.getElem_cons_succ, List.getElem_cons_zero, List.setIfInBounds_toArray, List.set_cons_zero, List.set_cons_succ]
                                                              refine wpAnyH_take (i := 10) (oi := _) (v := ?q2_11v) rfl (by kernel_rfl) (by kernel_rfl) (by kernel_rfl) (fun _ _ _ h => h) (Or.inl ⟨by rfl, ?q2_11y⟩) (by assumption) ?q2_11r
                                                              case q2_11y => (intro w0 hSw; (try dsimp only at hSw); go_simp; try (with_reducible rfl))
                                                              case q2_11r =>
                                                                simp only [Act.put, List.getElem_toArray, List.getElem_cons_succ, List.getElem_cons_zero, List.setIfInBounds_toArray, List.set_cons_zero, List.set_cons_succ]
                                                                refine wpAnyH_take (i := 11) (oi := _) (v := ?q2_12v) rfl (by kernel_rfl) (by kernel_rfl) (by kernel_rfl) (fun _ _ _ h => h) (Or.inl ⟨by rfl, ?q2_12y⟩) (by assumption) ?q2_12r
                                                                case q2_12y => (intro w0 hSw; (try dsimp only at hSw); go_simp; try (with_reducible rfl))
                                                                case q2_12r =>
                                                                  simp only [Act.put, List.getElem_toArray, List.getElem_cons_succ, List.getElem_cons_zero, List.setIfInBounds_toArray, List.set_cons_zero, List.set_cons_succ]
                                                                  refine wpAnyH_ready (rs := [12]) (by kernel_rfl) (by simp) ?q2_13g
                                                                  case q2_13g =>
                                                                    refine AllReadyH.cons (o := _) rfl (fun K hK => ?q2_13k) AllReadyH.nil
                                                                    case q2_13k =>
                                                                      go_simp
                                                                      refine hK.out _ _ ?q2_13s (fun hHeld => ?q2_13t)
                                                                      case q2_13s => (try dsimp only); first | exact hS5.out _ (Keeps.refl (· = pb d n) w5).drew | exact hS5.out _ ((Keeps.refl (· = pb d n) w5).drew.setCell (p := ⟨pb d n, p, none⟩) (.inl rfl) _) | exact hS5.out _ ((Keeps.refl (· = pb d n) w5).setCell (p := ⟨pb d n, p, none⟩) (.inl rfl) _).drew
                                                                      case q2_13t =>
                                                                        clear hK K
                                                                        try simp only [Act.put, List.getElem_toArray, List.getElem_cons_succ, List.getElem_cons_zero, List.setIfInBounds_toArray, List.set_cons_zero, List.set_cons_succ]
                                                                        refine wpAnyH_ready (rs := [13]) (by kernel_rfl) (by simp) ?q2_14g
                                                                        case q2_14g =>
                                                                          refine AllReadyH.cons (o := _) rfl (fun K hK => ?q2_14k) AllReadyH.nil
                                                                          case q2_14k =>
                                                                            go_simp
                                                                            refine hK.out _ _ ?q2_14s (fun hHeld => ?q2_14t)
                                                                            case q2_14s => (try dsimp only); first | exact hS5.out _ (Keeps.refl (· = pb d n) w5).drew | exact hS5.out _ ((Keeps.refl (· = pb d n) w5).drew.setCell (p := ⟨pb d n, p, none⟩) (.inl rfl) _) | exact hS5.out _ ((Keeps.refl (· = pb d n) w5).setCell (p := ⟨pb d n, p, none⟩) (.inl rfl) _).drew
                                                                            case q2_14t =>
                                                                              clear hK K
                                                                              try simp only [Act.put, List.getElem_toArray, List.getElem_cons_succ, List.getElem_cons_zero, List.setIfInBounds_toArray, List.set_cons_zero, List.set_cons_succ]
                                                                              refine wpAnyH_done (by kernel_rfl) ?q2z _
                                                                              case q2z =>
                                                                                go_end0
                                                                                rw [← hA2'.out]
                                                                                have hlc := cutAt_len (m := pt) hl'.out
                                                                                refine put_end hN5.out hd hn hp (k3'.out.trans' k35.out (fun _ h => h.elim)) hO3'.out hr5.out (Nat.le_trans k3'.out.size (by have := hg4'.out; simp at this; omega)) ?_
                                                                                rw [hlc]
                                                                                exact (Keeps.refl Nil _).drew
end Go.Proofs.Ytglpacdenfoicaa
