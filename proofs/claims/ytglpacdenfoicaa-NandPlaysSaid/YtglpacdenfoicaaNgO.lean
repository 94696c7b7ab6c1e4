/- the document's New -/
import Derived.Test.YtglpacdenfoicaaNgN
import Derived.Test.YtglpacdenfoicaaNgJ
import Derived.Test.YtglpacdenfoicaaNeE
namespace Go.Proofs.Ytglpacdenfoicaa
open Go.RowKit

def FtL (LA : List Fx) (S : Sh) (k : Nat) : Prop := ∀ y ∈ LA.take k, y.f.may S = true
theorem FtL.succ {LA : List Fx} {S : Sh} {k : Nat} {x : Fx} (h : FtL LA S k) (hx : LA[k]? = some x) (hv : x.f.may S = true) : FtL LA S (k + 1) := by
  unfold FtL
  rw [show LA.take (k + 1) = LA.take k ++ [x] by rw [List.take_add_one, hx]; rfl]
  intro y hy
  rcases List.mem_append.1 hy with h2 | h2
  · exact h y h2
  · rw [List.mem_singleton] at h2; subst h2; exact hv
theorem take_succ' {LA : List Fx} {k : Nat} {x : Fx} (hx : LA[k]? = some x) : LA.take (k + 1) = LA.take k ++ [x] := by rw [List.take_add_one, hx]; rfl
theorem may_times {S : Sh} {f : Ft} (h : f.may S = true) : 0 ≤ f.times := by
  unfold Ft.may at h
  rw [Bool.and_eq_true] at h
  exact (of_decide_eq_true h.1).t2
theorem RwB.begin {w : World} {n0 rb : Nat} {S : Sh} (h : w.heap[rb]? = some (.cells (nrCells S none 0 0 none 0 0 none 0 0) 105 (0, 0))) (hn : n0 ≤ rb) : RwB w n0 rb S 0 none 0 (fun _ => 0) (fun _ => 0) none 0 [] none 0 [] :=
  ⟨h, hn, RwC.begin w n0 S⟩
theorem encF_one (x : Fx) : ∀ u ∈ encF x, u.oneCell' = true := by
  intro u hu
  simp only [encF, List.mem_cons, List.not_mem_nil, or_false] at hu
  rcases hu with h | h | h | h | h | h | h | h <;> subst h <;> rfl
set_option maxHeartbeats 8000000 in
set_option maxRecDepth 100000 in
theorem new22 {w : World} {S : Sh} {fa : Option Addr} {fc : Nat} {LA : List Fx} (hS1 : S.Ok) (hf : FitsI S.dies S.blocks S.pages S.bytes) (hL : FtsAt w fa LA) (hn : LA.length ≤ 2000) :
    Calls Try.prog 22 #[.agg #[.int .i64 (S.dies : Nat), .int .i64 (S.blocks : Nat), .int .i64 (S.pages : Nat), .int .i64 (S.bytes : Nat)], .slice fa LA.length fc] w (NrOut w S LA) := by
  have hfit := Lib.hid (fits40_t hf)
  have hL' := Lib.hid hL
  have hS1' := Lib.hid hS1
  obtain ⟨T, hT⟩ : ∃ T, S.dies * S.blocks = T := ⟨_, rfl⟩
  have hT0 : 0 < S.dies * S.blocks := Nat.mul_pos (by have := hS1.d1; omega) (by have := hS1.b1; omega)
  have hT1 : S.dies * S.blocks ≤ 512 := Nat.le_trans (Nat.mul_le_mul hS1.d2 hS1.b2) (by decide)
  have hm : (S.dies : Int) * (S.blocks : Int) = (T : Int) := by rw [← hT]; exact (Int.natCast_mul _ _).symm
  rw [hT] at hT0 hT1
  have hw1 : IntKind.i64.wrap (T : Int) = (T : Int) := IntWalk.i64_in _ (by omega)
  have hp64 := hS1.p2
  have hn4k := hS1.n2
  have hT' := Lib.hid hT
  clear hL hf hS1 hT
  go_enter Try.func22, Try.ntmps22
  go_wp2_with fail
  refine (hfit.out _).mono ?_
  rintro e w1 ⟨rfl, k1⟩
  have k1' := Lib.hid (((Keeps.refl Nil w).alloc (.cells (shCells S) 31)).trans k1)
  have hsh : w1.heap[w.heap.size]? = some (.cells (shCells S) 31 (0, 0)) := k1.heap (heap_alloc_new w _) (fun h => h)
  have s0 := cell_of_heap hsh 0
  have s1 := cell_of_heap hsh 1
  have s2 := cell_of_heap hsh 2
  have s3 := cell_of_heap hsh 3
  simp only [shCells, List.getElem?_toArray, List.getElem?_cons_zero, List.getElem?_cons_succ] at s0 s1 s2 s3
  have hsh' := Lib.hid hsh
  clear k1 hsh
  go_wp2_with fail
  have hB0 := RwB.begin (n0 := w.heap.size) (S := S) (heap_alloc_new w1 (.cells (nrCells S none 0 0 none 0 0 none 0 0) 105)) k1'.out.size
  obtain ⟨w2, hw2⟩ : ∃ w2, w1.alloc (.cells (nrCells S none 0 0 none 0 0 none 0 0) 105) = w2 := ⟨_, rfl⟩
  have k2 := Lib.hid (k1'.out.alloc (.cells (nrCells S none 0 0 none 0 0 none 0 0) 105))
  have hsh2 := Lib.hid (((Keeps.refl Nil w1).alloc (.cells (nrCells S none 0 0 none 0 0 none 0 0) 105)).heap hsh'.out (fun h => h))
  rw [hw2] at hB0 k2 hsh2
  have hB0' := Lib.hid hB0
  obtain ⟨rb, hab⟩ : ∃ rb, w1.heap.size = rb := ⟨_, rfl⟩
  rw [hab] at hB0'
  rw [show w1.alloc (.cells #[.int .i64 (S.dies : Nat), .int .i64 (S.blocks : Nat), .int .i64 (S.pages : Nat), .int .i64 (S.bytes : Nat), .slice none 0 0, .slice none 0 0, .slice none 0 0, .bool false, .int .i64 0, .int .i64 0, .int .i64 0, .int .i64 0, .int .i64 0, .int .i64 0, .int .i64 0] 105) = w2 from hw2, hab]
  clear hw2 hab s0 s1 s2 s3 hB0 hsh' k1' w1
  go_loopw [8] (fun i wr => ∃ k : Nat, k ≤ LA.length ∧ i = .int .i64 k ∧ Hid (RwQ w wr rb S (LA.take k) ((LA.take k).map (·.f.times)) 0 ∧ FtL LA S k)) (fun i _ => LA.length - (intOf i).toNat)
  case atStart => exact ⟨0, Nat.zero_le _, rfl, Lib.hid ⟨⟨⟨_, _, _, _, _, _, _, _, hB0'.out, fun _ => ⟨rfl, rfl⟩⟩, k2.out, hsh2.out⟩, fun y hy => by simp at hy⟩⟩
  case round =>
    obtain ⟨k, hk, rfl, hrel⟩ := hrel
    have hshr := hrel.out.1.2.2
    have hshr' := Lib.hid hshr
    clear hshr
    by_cases hlt : k < LA.length
    · obtain ⟨x, hx⟩ : ∃ x, LA[k]? = some x := ⟨LA[k], List.getElem?_eq_getElem hlt⟩
      obtain ⟨g, off, rfl, hc⟩ := hL'.out.cell k x hx
      have kr := hrel.out.1.2.1
      have kr' := Lib.hid kr
      have hXc := Lib.hid (show ∀ W, Keeps Nil w W → (W.cell? ⟨g, off + k * 8, none⟩ = some (.int .i64 x.f.kind) ∧ W.cell? ⟨g, off + k * 8 + 1, none⟩ = some (.int .i64 x.f.time) ∧ W.cell? ⟨g, off + k * 8 + 2, none⟩ = some (.int .i64 x.f.die) ∧ W.cell? ⟨g, off + k * 8 + 3, none⟩ = some (.int .i64 x.f.block) ∧ W.cell? ⟨g, off + k * 8 + 4, none⟩ = some (.int .i64 x.f.page) ∧ W.cell? ⟨g, off + k * 8 + 5, none⟩ = some (.int .i64 x.f.times) ∧ W.cell? ⟨g, off + k * 8 + 6, none⟩ = some (.int .i64 x.f.part) ∧ W.cell? ⟨g, off + k * 8 + 7, none⟩ = some (.slice x.a x.f.bits.length x.c)) from fun W hW => ⟨hW.cell (hc 0 _ rfl) (fun h => h), hW.cell (hc 1 _ rfl) (fun h => h), hW.cell (hc 2 _ rfl) (fun h => h), hW.cell (hc 3 _ rfl) (fun h => h), hW.cell (hc 4 _ rfl) (fun h => h), hW.cell (hc 5 _ rfl) (fun h => h), hW.cell (hc 6 _ rfl) (fun h => h), hW.cell (hc 7 _ rfl) (fun h => h)⟩)
      have hX := Lib.hid (show ∀ W, Keeps Nil wr W → (W.cell? ⟨g, off + k * 8, none⟩ = some (.int .i64 x.f.kind) ∧ W.cell? ⟨g, off + k * 8 + 1, none⟩ = some (.int .i64 x.f.time) ∧ W.cell? ⟨g, off + k * 8 + 2, none⟩ = some (.int .i64 x.f.die) ∧ W.cell? ⟨g, off + k * 8 + 3, none⟩ = some (.int .i64 x.f.block) ∧ W.cell? ⟨g, off + k * 8 + 4, none⟩ = some (.int .i64 x.f.page) ∧ W.cell? ⟨g, off + k * 8 + 5, none⟩ = some (.int .i64 x.f.times) ∧ W.cell? ⟨g, off + k * 8 + 6, none⟩ = some (.int .i64 x.f.part) ∧ W.cell? ⟨g, off + k * 8 + 7, none⟩ = some (.slice x.a x.f.bits.length x.c)) ∧ W.cell? ⟨w.heap.size, 0, none⟩ = some (.int .i64 (S.dies : Nat)) ∧ W.cell? ⟨w.heap.size, 1, none⟩ = some (.int .i64 (S.blocks : Nat)) ∧ W.cell? ⟨w.heap.size, 2, none⟩ = some (.int .i64 (S.pages : Nat)) ∧ W.cell? ⟨w.heap.size, 3, none⟩ = some (.int .i64 (S.bytes : Nat)) from fun W hW => ⟨hXc.out _ (kr'.out.trans hW), (cell_of_heap (hW.heap hshr'.out (fun h => h)) 0), (cell_of_heap (hW.heap hshr'.out (fun h => h)) 1), (cell_of_heap (hW.heap hshr'.out (fun h => h)) 2), (cell_of_heap (hW.heap hshr'.out (fun h => h)) 3)⟩)
      have hx' := Lib.hid hx
      have hmem := List.mem_of_getElem? hx
      obtain ⟨b1, b2, b3⟩ := hL'.out.bits x hmem
      have hb0 := Lib.hid b1
      have hb1 := Lib.hid (show NumsAt .i64 wr x.a x.f.bits from b1.keeps kr (fun _ _ h => h))
      have hmay := Lib.hid (fun W (hW : Keeps Nil wr W) => may41 S x hn4k (by omega) W (hb1.out.keeps hW (fun _ _ h => h)))
      obtain ⟨v, hv⟩ : ∃ v, x.f.may S = v := ⟨_, rfl⟩
      rw [hv] at hmay
      have hv' := Lib.hid hv
      clear hx hmem b1 b2 b3 hv hc kr
      go_wp2_with fail
      refine wp_region_held_drew (S := fun W => (W.cell? ⟨g, off + k * 8, none⟩ = some (.int .i64 x.f.kind) ∧ W.cell? ⟨g, off + k * 8 + 1, none⟩ = some (.int .i64 x.f.time) ∧ W.cell? ⟨g, off + k * 8 + 2, none⟩ = some (.int .i64 x.f.die) ∧ W.cell? ⟨g, off + k * 8 + 3, none⟩ = some (.int .i64 x.f.block) ∧ W.cell? ⟨g, off + k * 8 + 4, none⟩ = some (.int .i64 x.f.page) ∧ W.cell? ⟨g, off + k * 8 + 5, none⟩ = some (.int .i64 x.f.times) ∧ W.cell? ⟨g, off + k * 8 + 6, none⟩ = some (.int .i64 x.f.part) ∧ W.cell? ⟨g, off + k * 8 + 7, none⟩ = some (.slice x.a x.f.bits.length x.c)) ∧ W.cell? ⟨w.heap.size, 0, none⟩ = some (.int .i64 (S.dies : Nat)) ∧ W.cell? ⟨w.heap.size, 1, none⟩ = some (.int .i64 (S.blocks : Nat)) ∧ W.cell? ⟨w.heap.size, 2, none⟩ = some (.int .i64 (S.pages : Nat)) ∧ W.cell? ⟨w.heap.size, 3, none⟩ = some (.int .i64 (S.bytes : Nat))) (by kernel_rfl) ?q1a (fun hHeld => ?q1b)
      case q1a => (try dsimp only); first | exact hX.out _ (Keeps.refl Nil wr).drew | exact hX.out _ km.out
      case q1b =>
        refine wpAnyH_take (i := 0) (oi := _) (v := ?q1_1v) rfl (by kernel_rfl) (by kernel_rfl) (by kernel_rfl) (fun _ _ _ h => h) (Or.inl ⟨by rfl, ?q1_1y⟩) (by assumption) ?q1_1r
        case q1_1y => (intro w0 hSw; (try dsimp only at hSw); go_simp; try (with_reducible rfl))
        case q1_1r =>
          simp only [Act.put, List.getElem_toArray, List.getElem_cons_zero, List.setIfInBounds_toArray, List.set_cons_zero, List.set_cons_succ]
          refine wpAnyH_take (i := 1) (oi := _) (v := ?q1_2v) rfl (by kernel_rfl) (by kernel_rfl) (by kernel_rfl) (fun _ _ _ h => h) (Or.inl ⟨by rfl, ?q1_2y⟩) (by assumption) ?q1_2r
          case q1_2y => (intro w0 hSw; (try dsimp only at hSw); go_simp; try (with_reducible rfl))
          case q1_2r =>
            simp only [Act.put, List.getElem_toArray, List.getElem_cons_succ, List.getElem_cons_zero, List.setIfInBounds_toArray, List.set_cons_zero, List.set_cons_succ]
            refine wpAnyH_take (i := 2) (oi := _) (v := ?q1_3v) rfl (by kernel_rfl) (by kernel_rfl) (by kernel_rfl) (fun _ _ _ h => h) (Or.inl ⟨by rfl, ?q1_3y⟩) (by assumption) ?q1_3r
            case q1_3y => (intro w0 hSw; (try dsimp only at hSw); go_simp; try (with_reducible rfl))
            case q1_3r =>
              simp only [Act.put, List.getElem_toArray, List.getElem_cons_succ, List.getElem_cons_zero, List.setIfInBounds_toArray, List.set_cons_zero, List.set_cons_succ]
              refine wpAnyH_take (i := 3) (oi := _) (v := ?q1_4v) rfl (by kernel_rfl) (by kernel_rfl) (by kernel_rfl) (fun _ _ _ h => h) (Or.inl ⟨by rfl, ?q1_4y⟩) (by assumption) ?q1_4r
              case q1_4y => (intro w0 hSw; (try dsimp only at hSw); go_simp; try (with_reducible rfl))
              case q1_4r =>
                simp only [Act.put, List.getElem_toArray, List.getElem_cons_succ, List.getElem_cons_zero, List.setIfInBounds_toArray, List.set_cons_zero, List.set_cons_succ]
                refine wpAnyH_take (i := 4) (oi := _) (v := ?q1_5v) rfl (by kernel_rfl) (by kernel_rfl) (by kernel_rfl) (fun _ _ _ h => h) (Or.inl ⟨by rfl, ?q1_5y⟩) (by assumption) ?q1_5r
                case q1_5y => (intro w0 hSw; (try dsimp only at hSw); go_simp; try (with_reducible rfl))
                case q1_5r =>
                  simp only [Act.put, List.getElem_toArray, List.getElem_cons_succ, List.getElem_cons_zero, List.setIfInBounds_toArray, List.set_cons_zero, List.set_cons_succ]
                  refine wpAnyH_ready (rs := [5]) (by kernel_rfl) (by simp) ?q1_6g
                  case q1_6g =>
                    refine AllReadyH.cons (o := _) rfl (fun K hK => ?q1_6k) AllReadyH.nil
                    case q1_6k =>
                      go_simp
                      ((with_reducible refine (hmay.out _ (Keeps.refl Nil wr).drew).mono ?_); rintro e wm ⟨rfl, km⟩; have km := Lib.hid ((Keeps.refl Nil wr).drew.trans km))
                      refine hK.out _ _ ?q1_6s (fun hHeld => ?q1_6t)
                      case q1_6s => (try dsimp only); first | exact hX.out _ (Keeps.refl Nil wr).drew | exact hX.out _ km.out
                      case q1_6t =>
                        clear hK K
                        try simp only [Act.put, List.getElem_toArray, List.getElem_cons_succ, List.getElem_cons_zero, List.setIfInBounds_toArray, List.set_cons_zero, List.set_cons_succ]
                        refine wpAnyH_take (i := 6) (oi := _) (v := ?q1_7v) rfl (by kernel_rfl) (by kernel_rfl) (by kernel_rfl) (fun _ _ _ h => h) (Or.inl ⟨by rfl, ?q1_7y⟩) (by assumption) ?q1_7r
                        case q1_7y => (intro w0 hSw; (try dsimp only at hSw); go_simp; try (with_reducible rfl))
                        case q1_7r =>
                          simp only [Act.put, List.getElem_toArray, List.getElem_cons_succ, List.getElem_cons_zero, List.setIfInBounds_toArray, List.set_cons_zero, List.set_cons_succ]
                          refine wpAnyH_done (by kernel_rfl) ?q1z _
                          case q1z =>
                            cases v with
                            | false =>
                              go_wp2_with fail
                              go_ret2
                              refine ⟨fun h => ?_, fun _ => ⟨rfl, kr'.out.trans km.out⟩⟩
                              have h2 := List.all_eq_true.1 h x.f (List.mem_map.2 ⟨x, List.mem_of_getElem? hx'.out, rfl⟩)
                              rw [hv'.out] at h2
                              cases h2
                            | true =>
                              clear hmay
                              obtain ⟨⟨ba, bc, pb, pc, fa1, fc1, la, lc, hB, hk0⟩, _, _⟩ := hrel.out.1
                              have hlk : (LA.take k).length = k := by rw [List.length_take]; omega
                              have hBm := hB.nil km.out
                              obtain ⟨⟨g0, g1, g2, g3, g4, g5, g6, g7⟩, _⟩ := hX.out _ km.out
                              have e5 := cell_of_heap hBm.blk 5
                              simp only [nrCells, List.getElem?_toArray, List.getElem?_cons_zero, List.getElem?_cons_succ] at e5
                              rw [hlk] at e5
                              have hrow : RowAt wm 33 8 fa1 k fc1 (recs encF (LA.take k)) := by have := hBm.c.fts; unfold RecRow at this; rw [hlk] at this; exact this
                              have hrow' := Lib.hid hrow
                              have hsrc := Lib.hid (src_built wm (l := encF x) (n := 8) (E := 33) rfl)
                              have hBm' := Lib.hid hBm
                              have hk0' := Lib.hid hk0
                              have n1 := Lib.hid (show k + 1 ≤ maxLen by simp only [maxLen]; omega)
                              have n2 := Lib.hid (show (k + 1) * 80 ≤ 140737488355328 by omega)
                              have hlk' := Lib.hid hlk
                              have fd5 := frozen_of_heap hBm.blk 5
                              have e5' : (wm.alloc (.cells #[.int .i64 x.f.kind, .int .i64 x.f.time, .int .i64 x.f.die, .int .i64 x.f.block, .int .i64 x.f.page, .int .i64 x.f.times, .int .i64 x.f.part, .slice x.a x.f.bits.length x.c] 33)).cell? ⟨rb, 5, none⟩ = some (.slice fa1 k fc1) := ((Keeps.refl Nil wm).alloc _).cell e5 (fun h => h)
                              obtain ⟨i33, hi, hz0, hz1, hz2⟩ := info_parts info33
                              clear hB hk0 hBm hrow hlk
                              go_wp2_with fail
                              go_region_law ((refine step_app _ (by rfl) _ _ 34 (by rfl) 33 i33 (.agg #[.int .i64 0, .int .i64 0, .int .i64 0, .int .i64 0, .int .i64 0, .int .i64 0, .int .i64 0, .slice none 0 0]) 8 80 Try.underlying34 hi hz0 hz1 hz2 rfl (by decide) fa1 k fc1 (recs encF (LA.take k)) (by rfl) _ 1 1 (encF x) (by rfl) (hrow'.out.keeps (((Keeps.refl Nil _).alloc _).drew) (fun _ _ h => h)) (hsrc.out.keeps (Keeps.refl Nil _).drew) (fun h => by cases h) (encF_one _) (by exact n1.out) (by exact n2.out) ?_; intro a5 cap5 w5 hr5 hk5 hb5; have hXX := hBm'.out.nil (((Keeps.refl Nil wm).alloc (.cells (encF x).toArray 33)).drew); have hA5 := hk5.heap hXX.blk (fun e => RowAt.ne hXX.c.fts e hXX.blk (by decide) rfl); have cc5 := cell_of_heap hA5 5; have ff5 := frozen_of_heap hA5 5; simp only [nrCells, List.getElem?_toArray, List.getElem?_cons_zero, List.getElem?_cons_succ] at cc5; have hr5' := Lib.hid hr5; have hk5' := Lib.hid hk5; have hb5' := Lib.hid hb5; clear hXX hA5 hr5 hk5 hb5))
                              all_goals
                                have hN := Lib.hid (rwF_step hBm'.out (fun _ => hk0'.out trivial) (kr'.out.trans km.out) (km.out.heap hshr'.out (fun h => h)) (x := x) hb0.out (by rw [hlk'.out]; exact hr5'.out) hk5'.out hb5'.out)
                                rw [hlk'.out] at hN
                                clear hr5' hk5' hb5' cc5 ff5
                                obtain ⟨w6, hw6⟩ : ∃ w6, w5.setCell ⟨rb, 5, none⟩ (.slice a5 (k + 1) cap5) = w6 := ⟨_, rfl⟩
                                rw [hw6] at hN ⊢
                                clear hw6 e5 e5' fd5 g0 g1 g2 g3 g4 g5 g6 g7
                                obtain ⟨⟨ba2, bc2, pb2, pc2, fa2, fc2, la2, lc2, hB2, hk02⟩, hk2, hs2⟩ := hN.out
                                obtain ⟨g0, g1, g2, g3, g4, g5, g6, g7⟩ := hXc.out _ hk2
                                have hDl : ((LA.take k).map (·.f.times)).length = k := by rw [List.length_map]; exact hlk'.out
                                have e6 := cell_of_heap hB2.blk 6
                                simp only [nrCells, List.getElem?_toArray, List.getElem?_cons_zero, List.getElem?_cons_succ] at e6
                                rw [hDl] at e6
                                have fd6 := frozen_of_heap hB2.blk 6
                                have e6' : (w6.alloc (.cells #[.int .i64 x.f.times] 3)).cell? ⟨rb, 6, none⟩ = some (.slice la2 k lc2) := ((Keeps.refl Nil w6).alloc _).cell e6 (fun h => h)
                                have hrow2 : RowAt w6 3 1 la2 k lc2 (((LA.take k).map (·.f.times)).map (Value.int .i64)) := by have := hB2.c.left; unfold NumRow at this; rw [hDl] at this; exact this
                                have hrow2' := Lib.hid hrow2
                                have hsrc2 := Lib.hid (src_built w6 (l := [Value.int .i64 x.f.times]) (n := 1) (E := 3) rfl)
                                have hB2' := Lib.hid hB2
                                have hk02' := Lib.hid hk02
                                have hk2' := Lib.hid hk2
                                have hs2' := Lib.hid hs2
                                have hDl' := Lib.hid hDl
                                have n3 := Lib.hid (show (k + 1) * 8 ≤ 140737488355328 by omega)
                                obtain ⟨i3, hi3, hz30, hz31, hz32⟩ := info_parts info3n
                                clear hB2 hk02 hk2 hs2 hrow2 hDl hN
                                go_wp2_with fail
                                go_region_law ((refine step_app _ (by rfl) _ _ 23 (by rfl) 3 i3 (.int .i64 0) 1 8 Try.underlying23 hi3 hz30 hz31 hz32 rfl (by decide) la2 k lc2 (((LA.take k).map (·.f.times)).map (Value.int .i64)) (by rfl) _ 1 1 [Value.int .i64 x.f.times] (by rfl) (hrow2'.out.keeps (((Keeps.refl Nil _).alloc _).drew) (fun _ _ h => h)) (hsrc2.out.keeps (Keeps.refl Nil _).drew) (fun h => by cases h) (by intro u hu; rw [List.mem_singleton] at hu; subst hu; rfl) (by exact n1.out) (by exact n3.out) ?_; intro a7 cap7 w7 hr7 hk7 hb7; have hXX := hB2'.out.nil (((Keeps.refl Nil w6).alloc (.cells [Value.int .i64 x.f.times].toArray 3)).drew); have hA7 := hk7.heap hXX.blk (fun e => RowAt.ne hXX.c.left e hXX.blk (by decide) rfl); have cc7 := cell_of_heap hA7 6; have ff7 := frozen_of_heap hA7 6; simp only [nrCells, List.getElem?_toArray, List.getElem?_cons_zero, List.getElem?_cons_succ] at cc7; have hr7' := Lib.hid hr7; have hk7' := Lib.hid hk7; have hb7' := Lib.hid hb7; clear hXX hA7 hr7 hk7 hb7))
                                all_goals
                                  have hN2 := rwL_step hB2'.out (fun _ => hk02'.out trivial) hk2'.out hs2'.out (by rw [hDl'.out]; exact hr7'.out) hk7'.out hb7'.out
                                  rw [hDl'.out, show (LA.take k).map (·.f.times) ++ [x.f.times] = (LA.take (k + 1)).map (·.f.times) by rw [take_succ' hx'.out, List.map_append]; rfl, ← take_succ' hx'.out] at hN2
                                  have hN2' := Lib.hid (And.intro hN2 (hrel.out.2.succ hx'.out hv'.out))
                                  clear hN2 hr7' hk7' hb7' cc7 ff7
                                  go_wp2_with fail
                                  go_roundw
                                  case rel => exact ⟨k + 1, by omega, by go_num, hN2'⟩
                                  case measure => simp [intOf]; omega
    · have hkn : k = LA.length := by omega
      rw [hkn, List.take_length] at hrel
      have hall := hrel.out.2
      unfold FtL at hall
      rw [List.take_length] at hall
      have hall' := Lib.hid hall
      have hrel' := Lib.hid hrel.out.1
      clear hall hkn hrel hshr' hB0'
      go_wp2_with fail
      go_loopw [10] (fun i wz => ∃ j : Nat, j ≤ T ∧ i = .int .i64 j ∧ Hid (RwQ w wz rb S LA (LA.map (·.f.times)) j)) (fun i _ => T - (intOf i).toNat)
      case atStart => exact ⟨0, Nat.zero_le _, rfl, hrel'⟩
      case round =>
        obtain ⟨j, hj, rfl, hrel⟩ := hrel
        obtain ⟨wz, rfl⟩ : ∃ wz, wz = wr := ⟨_, rfl⟩
        have hshz := hrel.out.2.2
        have s0 := cell_of_heap hshz 0
        have s1 := cell_of_heap hshz 1
        simp only [shCells, List.getElem?_toArray, List.getElem?_cons_zero, List.getElem?_cons_succ] at s0 s1
        have hshz' := Lib.hid hshz
        clear hshz
        by_cases hlt2 : j < T
        · go_wp2_with fail
          clear s0 s1
          obtain ⟨n1, hn1⟩ : ∃ n1, wz.heap.size = n1 := ⟨_, rfl⟩
          have hD0 := BlB.begin (n1 := n1) (g := n1) (w := wz.alloc (.cells #[.slice none 0 0, .int .i64 0, .int .i64 0] 107)) (by rw [← hn1]; exact heap_alloc_new _ _) (Nat.le_refl _) S
          have ky := (Keeps.refl Nil wz).alloc (.cells #[.slice none 0 0, .int .i64 0, .int .i64 0] 107)
          obtain ⟨wy, hwy⟩ : ∃ wy, wz.alloc (.cells #[.slice none 0 0, .int .i64 0, .int .i64 0] 107) = wy := ⟨_, rfl⟩
          rw [hwy] at hD0 ky
          rw [hwy, hn1]
          have hD0' := Lib.hid hD0
          have ky' := Lib.hid ky
          have hn1' := Lib.hid hn1
          clear hD0 ky hwy hn1
          go_loopw [12] (fun i wx => ∃ q : Nat, q ≤ S.pages ∧ i = .int .i64 q ∧ Hid (Keeps Nil wz wx ∧ ∃ pa pc xs, BlB wx n1 n1 S q pa pc xs)) (fun i _ => S.pages - (intOf i).toNat)
          case atStart => exact ⟨0, Nat.zero_le _, rfl, Lib.hid ⟨ky'.out, _, _, _, hD0'.out⟩⟩
          case round =>
            obtain ⟨q, hq, rfl, hrel3⟩ := hrel
            obtain ⟨wx, rfl⟩ : ∃ wx, wx = wr := ⟨_, rfl⟩
            obtain ⟨kzr, pa, pc, xs, hDr⟩ := hrel3.out
            have hshr := kzr.heap hshz'.out (fun h => h)
            have s2 := cell_of_heap hshr 2
            have s3 := cell_of_heap hshr 3
            simp only [shCells, List.getElem?_toArray, List.getElem?_cons_zero, List.getElem?_cons_succ] at s2 s3
            have hDr' := Lib.hid hDr
            have kzr' := Lib.hid kzr
            have hshr' := Lib.hid hshr
            have hwn := Lib.hid (show w.heap.size < n1 by rw [← hn1'.out]; exact lt_of_heap hshz'.out)
            by_cases hql : q < S.pages
            · have hBl := Lib.hid (fun W => blank42 W S.bytes (by omega))
              have c0 := cell_of_heap hDr.blk 0
              have f0 := frozen_of_heap hDr.blk 0
              simp only [List.getElem?_toArray, List.getElem?_cons_zero] at c0
              have m1 := Lib.hid (show q + 1 ≤ maxLen by simp only [maxLen]; omega)
              have m2 := Lib.hid (show (q + 1) * 24 ≤ 140737488355328 by omega)
              obtain ⟨i22, hi, hz0, hz1, hz2⟩ := info_parts info22
              clear hDr kzr hrel3 hshr
              go_wp2_with fail
              go_region_law ((first
                | (go_simp; (with_reducible refine (hBl.out _).mono ?_); rintro e w9 ⟨a9, c9, rfl, hr9, k9, hn9⟩; have d0 := k9.cell c0 (fun h => h); have hr9' := Lib.hid hr9; have k9' := Lib.hid ((Keeps.refl Nil wx).drew.trans k9); have hn9' := Lib.hid hn9; have d0' : (w9.alloc (.cells #[.slice a9 S.bytes c9] 22)).cell? ⟨n1, 0, none⟩ = some (.slice pa q pc) := ((Keeps.refl Nil w9).alloc _).cell d0 (fun h => h); clear hr9 hn9)
                | (refine step_app _ (by rfl) _ _ 80 (by rfl) 22 i22 (.slice none 0 0) 1 24 Try.underlying80 hi hz0 hz1 hz2 rfl (by decide) pa q pc (xs.map fun y => .slice (some ⟨y.1, 0, none⟩) S.bytes y.2) (by rfl) _ 1 1 [Value.slice a9 S.bytes c9] (by rfl) (hDr'.out.row.keeps (k9'.out.alloc _) (fun _ _ h => h)) (src_built _ (l := [Value.slice a9 S.bytes c9]) (n := 1) (E := 22) rfl) (fun h => by cases h) (by intro u hu; rw [List.mem_singleton] at hu; subst hu; rfl) (by exact m1.out) (by exact m2.out) ?_; intro a5 cap5 w5 hr5 hk5 hb5; have hXX := hDr'.out.nil (k9'.out.alloc (.cells [Value.slice a9 S.bytes c9].toArray 22)); have hA5 := hk5.heap hXX.blk (fun e => RowAt.ne hXX.row e hXX.blk (by decide) rfl); have cc5 := cell_of_heap hA5 0; have ff5 := frozen_of_heap hA5 0; simp only [List.getElem?_toArray, List.getElem?_cons_zero] at cc5; have hr5' := Lib.hid hr5; have hk5' := Lib.hid hk5; have hb5' := Lib.hid hb5; clear hXX hA5 hr5 hk5 hb5)))
              all_goals
                obtain ⟨y9, rfl⟩ : ∃ y, a9 = some ⟨y, 0, none⟩ := by
                  rcases RowAt.form hr9'.out with ⟨_, h1, _⟩ | ⟨y, _, h1, _⟩
                  · rw [List.length_replicate] at h1; have := hS1'.out.n1; omega
                  · exact ⟨y, h1⟩
                have hN := Lib.hid (hDr'.out.nil k9'.out |>.add (y := y9) (z := c9) (wx := w9.alloc (.cells [Value.slice (some ⟨y9, 0, none⟩) S.bytes c9].toArray 22)) hr9'.out (by rw [← hn1'.out]; exact Nat.le_trans kzr'.out.size (hn9'.out y9 rfl)) ((Keeps.refl Nil w9).alloc _) (by rw [← hn1'.out]; exact (kzr'.out.trans k9'.out).size) hr5'.out hk5'.out hb5'.out)
                have hkn := Lib.hid (((kzr'.out.trans (k9'.out.alloc (.cells [Value.slice (some ⟨y9, 0, none⟩) S.bytes c9].toArray 22))).trans' hk5'.out (fun j hj => .inr (by rw [hn1'.out]; exact hDr'.out.ownP j hj))).setCell (p := ⟨n1, 0, none⟩) (.inr (by rw [hn1'.out]; exact Nat.le_refl _)) (.slice a5 (q + 1) cap5))
                clear hr5' hk5' hb5' cc5 ff5 hr9' k9' hn9'
                go_wp2_with fail
                go_roundw
                case rel => exact ⟨q + 1, by omega, by go_num, Lib.hid ⟨hkn.out, _, _, _, hN.out⟩⟩
                case measure => simp [intOf]; omega
            · have hqn : q = S.pages := by omega
              obtain ⟨⟨ba, bc, pb, pcs, fa2, fc2, la2, lc2, hB, hk0⟩, hkk, hsz⟩ := hrel.out
              rw [hqn] at hDr
              obtain ⟨g', hpa, _, _⟩ := hDr.done (n0 := n1) hS1'.out.p1 (Nat.le_refl _)
              subst hpa
              have hBr := hB.nil kzr
              have c4 := cell_of_heap hBr.blk 4
              have f4 := frozen_of_heap hBr.blk 4
              simp only [nrCells, List.getElem?_toArray, List.getElem?_cons_zero, List.getElem?_cons_succ] at c4
              have b0 := cell_of_heap hDr.blk 0
              have b1 := cell_of_heap hDr.blk 1
              have b2 := cell_of_heap hDr.blk 2
              simp only [List.getElem?_toArray, List.getElem?_cons_zero, List.getElem?_cons_succ] at b0 b1 b2
              rw [hqn]
              have c4' : (wx.alloc (.cells #[.slice (some ⟨g', 0, none⟩) S.pages pc, .int .i64 0, .int .i64 0] 107)).cell? ⟨rb, 4, none⟩ = some (.slice ba j bc) := ((Keeps.refl Nil wx).alloc _).cell c4 (fun h => h)
              obtain ⟨i107, hi, hz0, hz1, hz2⟩ := info_parts info107
              have hrow := hBr.c.row
              unfold RecRow at hrow
              rw [List.length_range] at hrow
              have hrow' := Lib.hid hrow
              have hsrc := Lib.hid (src_built wx (l := [Value.slice (some ⟨g', 0, none⟩) S.pages pc, .int .i64 0, .int .i64 0]) (n := 3) (E := 107) rfl)
              have hB' := Lib.hid hB
              have hk0' := Lib.hid hk0
              have hkk' := Lib.hid hkk
              have hBr' := Lib.hid hBr
              have hDz := Lib.hid hDr
              have m1 := Lib.hid (show j + 1 ≤ maxLen by simp only [maxLen]; omega)
              have m2 := Lib.hid (show (j + 1) * 40 ≤ 140737488355328 by omega)
              clear hB hk0 hkk hsz hBr hDr kzr hrel3 hqn hshr hrow hDr' s3
              go_wp2_with fail
              go_region_law ((refine step_app _ (by rfl) _ _ 103 (by rfl) 107 i107 (.agg #[.slice none 0 0, .int .i64 0, .int .i64 0]) 3 40 Try.underlying103 hi hz0 hz1 hz2 rfl (by decide) ba j bc (recs (encB S pb pcs) (List.range j)) (by rfl) _ 1 1 [Value.slice (some ⟨g', 0, none⟩) S.pages pc, .int .i64 0, .int .i64 0] (by rfl) (hrow'.out.keeps (((Keeps.refl Nil _).alloc _).drew) (fun _ _ h => h)) (hsrc.out.keeps (Keeps.refl Nil _).drew) (fun h => by cases h) (by intro u hu; simp only [List.mem_cons, List.not_mem_nil, or_false] at hu; rcases hu with h | h | h <;> subst h <;> rfl) (by exact m1.out) (by exact m2.out) ?_; intro a5 cap5 w5 hr5 hk5 hb5; have hXX := hBr'.out.nil (((Keeps.refl Nil wx).alloc (.cells [Value.slice (some ⟨g', 0, none⟩) S.pages pc, .int .i64 0, .int .i64 0].toArray 107)).drew); have hA5 := hk5.heap hXX.blk (fun e => RowAt.ne hXX.c.row e hXX.blk (by decide) rfl); have cc5 := cell_of_heap hA5 4; have ff5 := frozen_of_heap hA5 4; simp only [nrCells, List.getElem?_toArray, List.getElem?_cons_zero, List.getElem?_cons_succ] at cc5; have hr5' := Lib.hid hr5; have hk5' := Lib.hid hk5; have hb5' := Lib.hid hb5; clear hXX hA5 hr5 hk5 hb5))
              all_goals
                have hN := Lib.hid (rwB_step hB'.out hkk'.out hshz'.out hn1'.out kzr'.out hDz.out (by have := hS1'.out.p1; omega) hr5'.out hk5'.out hb5'.out)
                clear hr5' hk5' hb5' cc5 ff5
                go_wp2_with fail
                go_roundw
                case rel => exact ⟨j + 1, by omega, by go_num, hN⟩
                case measure => simp [intOf]; omega
        · have hjT : j = T := by omega
          go_wp2_with fail
          go_ret2
          obtain ⟨⟨ba, bc, pb, pc, fa2, fc2, la2, lc2, hB, _⟩, hkk, _⟩ := hrel.out
          rw [hjT, ← hT'.out] at hB
          refine ⟨fun _ => ?_, fun h => ?_⟩
          · obtain ⟨P, hP, hPL, hQ⟩ := hB.done (by have := hS1'.out.d1; have := hS1'.out.b1; exact Nat.mul_pos (by omega) (by omega)) (F := LA.map (·.f)) rfl (by rw [List.map_map]; rfl) (fun f hf => by
              obtain ⟨y, hy, rfl⟩ := List.mem_map.1 hf
              exact may_times (hall'.out y hy))
            exact ⟨P, _, by rw [hP]; rfl, hPL, hQ, hkk, fun k hk => hk.1⟩
          · have : (LA.map (·.f)).all (·.may S) = true := by
              rw [List.all_eq_true]
              intro f hf
              obtain ⟨y, hy, rfl⟩ := List.mem_map.1 hf
              exact hall'.out y hy
            rw [this] at h
            cases h
end Go.Proofs.Ytglpacdenfoicaa
