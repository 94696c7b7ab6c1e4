/- Get -/
import Derived.Test.YtnickcjkipemmaaDfL
namespace Go.Proofs.Ytnickcjkipemmaa
open Go.RowKit

variable {w w' : World} {db pb cb : Nat} {keys most : Int} {D D' : Df} {O OL OP T : Nat → Prop}
def okV (c v : Int) : Int := if c = 0 then v else 0
def GetIn (w : World) (db pb : Nat) (keys most : Int) (O : Nat → Prop) (nv : Nat) (v : Int) (D' : Df) (w' : World) : Prop :=
  ∃ O', DfAt w' db pb keys most D' O' ∧ Keeps (fun j => O j ∨ j = nv) w w' ∧ Grow O O' w w' ∧ w'.heap[nv]? = some (.cells #[.int .u64 v] 30 (0, 0))
set_option maxHeartbeats 4000000 in
set_option maxRecDepth 100000 in
theorem get53_ok (h : DfAt w db pb keys most D O) {mv kv nv : Nat} (k : Int) (hm : w.cell? ⟨mv, 0, none⟩ = some (.pointer (some ⟨db, 0, none⟩)))
    (hk : w.cell? ⟨kv, 0, none⟩ = some (.int .i64 k)) (hn : w.heap[nv]? = some (.cells #[.int .u64 0] 30 (0, 0))) (hno : ¬ O nv) (hmo : ¬ O mv) (hko : ¬ O kv) (hk0 : 0 ≤ k) (hk1 : k ≤ 4096) (hb : D.P.Lt 10000000) (hf : D.P.fails = false)
    (hnd : (D.L.map (·.key)).Nodup) (hkr : ∀ e ∈ D.L, 0 ≤ e.key ∧ e.key < 4096) :
    Calls Try.prog 53 #[.pointer (some ⟨mv, 0, none⟩), .pointer (some ⟨kv, 0, none⟩), .pointer (some ⟨nv, 0, none⟩)] w fun e w' => e = resE (D.loaded.put most ⟨k, D.P.at k, false⟩).1 ∧
      GetIn w db pb keys most O nv (okV (D.loaded.put most ⟨k, D.P.at k, false⟩).1 (D.P.at k)) (D.loaded.put most ⟨k, D.P.at k, false⟩).2 w' := by
  obtain ⟨hln, hm1, hm2, hy1, hy2, hp1, hp2⟩ := h.lenB
  have c2 := h.c2
  have hp0 : ¬ D.P.per = 0 := by omega
  have hq0 : 0 ≤ k / (D.P.per : Int) := Int.ediv_nonneg hk0 (by omega)
  have hq1 : k / (D.P.per : Int) ≤ 4096 := Int.le_trans (Int.ediv_le_self _ hk0) (by omega)
  obtain ⟨n, hq⟩ : ∃ n : Int, k / (D.P.per : Int) = n := ⟨_, rfl⟩
  obtain ⟨d1, d2, d3⟩ := div_bounds (k := k) hp1
  obtain ⟨r, hr⟩ : ∃ r : Nat, k % (D.P.per : Int) = (r : Nat) := ⟨(k % (D.P.per : Int)).toNat, by omega⟩
  have hrl : r < D.P.per := by omega
  rw [hq] at hq0 hq1
  have htd : k.tdiv (D.P.per : Int) = n := by rw [Int.tdiv_eq_ediv_of_nonneg hk0, hq]
  have htm : k.tmod (D.P.per : Int) = (r : Int) := by rw [Int.tmod_eq_emod_of_nonneg hk0, hr]
  have hwn : IntKind.i64.wrap n = n := wrap_small (by omega) (by omega)
  have hwr : IntKind.i64.wrap (r : Int) = (r : Int) := wrap_small (by omega) (by omega)
  obtain ⟨v, hv⟩ : ∃ v, D.P.at k = v := ⟨_, rfl⟩
  have hat : (D.P.pages n).getD r 0 = v := by rw [← hv]; unfold Pg.at; rw [hr, hq]; rfl
  have hlen : (D.P.pages n).length = D.P.per := by obtain ⟨_, _, _, h, _⟩ := h; exact h.pg.len n
  rw [hv]
  obtain ⟨R, hR⟩ : ∃ R, D.loaded.put most ⟨k, v, false⟩ = R := ⟨_, rfl⟩
  rw [hR]
  have hR' := Lib.hid hR
  clear hR
  have hL := Lib.hid (dload_ok (h.keeps ((Keeps.refl Nil w).drew) (fun _ _ h => h)) n (hb.mono (by decide)) hf)
  have hT := Lib.hid (show ∀ W, Keeps O w.drew W → W.cell? ⟨mv, 0, none⟩ = some (.pointer (some ⟨db, 0, none⟩)) ∧ W.cell? ⟨kv, 0, none⟩ = some (.int .i64 k) from fun W hW => ⟨hW.cell hm hmo, hW.cell hk hko⟩)
  have hno' := Lib.hid hno
  have hnv := Lib.hid hn
  have hat' := Lib.hid hat
  have hlen' := Lib.hid hlen
  have hb' := Lib.hid hb
  have hnd' := Lib.hid hnd
  have hkr' := Lib.hid hkr
  clear h hb hf hq hno hn hat hv hr d1 d2 d3 hmo hko hlen hnd hkr
  go_enter Try.func53, Try.ntmps53
  go_wp2_with fail
  refine wp_region_held_drew (S := fun W => W.cell? ⟨mv, 0, none⟩ = some (.pointer (some ⟨db, 0, none⟩)) ∧ W.cell? ⟨kv, 0, none⟩ = some (.int .i64 k) ∧ W.cell? ⟨db, 2, none⟩ = some (.int .i64 (D.P.per : Nat))) (by kernel_rfl) ?q1a (fun hHeld => ?q1b)
  case q1a => (try dsimp only); first | exact ⟨hm, hk, c2⟩ | exact ⟨(hT.out _ hk9'.out).1, (hT.out _ hk9'.out).2, hD9'.out.c2⟩
  case q1b =>
    refine wpAnyH_take (i := 0) (oi := _) (v := ?q1_1v) rfl (by kernel_rfl) (by kernel_rfl) (by kernel_rfl) (fun _ _ _ h => h) (Or.inl ⟨by rfl, ?q1_1y⟩) (by assumption) ?q1_1r
    case q1_1y => (intro w0 hSw; (try dsimp only at hSw); go_simp; try (with_reducible rfl))
    case q1_1r =>
      simp only [Act.put, List.getElem_toArray, List.getElem_cons_zero, List.setIfInBounds_toArray, List.set_cons_zero, List.set_cons_succ]
      refine wpAnyH_take (i := 1) (oi := _) (v := ?q1_2v) rfl (by kernel_rfl) (by kernel_rfl) (by kernel_rfl) (fun _ _ _ h => h) (Or.inl ⟨by rfl, ?q1_2y⟩) (by assumption) ?q1_2r
      case q1_2y => (intro w0 hSw; (try dsimp only at hSw); go_simp; try (with_reducible rfl))
      case q1_2r =>
        simp only [Act.put, List.getElem_toArray, List.getElem_cons_succ, List.getElem_cons_zero, List.setIfInBounds_toArray, List.set_cons_zero, List.set_cons_succ]
        refine wpAnyH_take (i := 2) (oi := _) (v := ?q1_3v) rfl (by kernel_rfl) (by kernel_rfl) (by kernel_rfl) (fun _ _ _ h => h) (Or.inl ⟨by rfl, ?q1_3y⟩) (by assumption) ?q1_3r
        case q1_3y => (intro w0 hSw; (try dsimp only at hSw); go_simp; try (with_reducible rfl))
        case q1_3r =>
          simp only [Act.put, List.getElem_toArray, List.getElem_cons_succ, List.getElem_cons_zero, List.setIfInBounds_toArray, List.set_cons_zero, List.set_cons_succ]
          refine wpAnyH_take (i := 3) (oi := _) (v := ?q1_4v) rfl (by kernel_rfl) (by kernel_rfl) (by kernel_rfl) (fun _ _ _ h => h) (Or.inl ⟨by rfl, ?q1_4y⟩) (by assumption) ?q1_4r
          case q1_4y => (intro w0 hSw; (try dsimp only at hSw); go_simp; try (with_reducible rfl))
          case q1_4r =>
            simp only [Act.put, List.getElem_toArray, List.getElem_cons_succ, List.getElem_cons_zero, List.setIfInBounds_toArray, List.set_cons_zero, List.set_cons_succ]
            refine wpAnyH_take (i := 4) (oi := _) (v := ?q1_5v) rfl (by kernel_rfl) (by kernel_rfl) (by kernel_rfl) (fun _ _ _ h => h) (Or.inl ⟨by rfl, ?q1_5y⟩) (by assumption) ?q1_5r
            case q1_5y => (intro w0 hSw; (try dsimp only at hSw); go_simp; try (with_reducible rfl))
            case q1_5r =>
              simp only [Act.put, List.getElem_toArray, List.getElem_cons_succ, List.getElem_cons_zero, List.setIfInBounds_toArray, List.set_cons_zero, List.set_cons_succ]
              refine wpAnyH_take (i := 5) (oi := _) (v := ?q1_6v) rfl (by kernel_rfl) (by kernel_rfl) (by kernel_rfl) (fun _ _ _ h => h) (Or.inl ⟨by rfl, ?q1_6y⟩) (by assumption) ?q1_6r
              case q1_6y => (intro w0 hSw; (try dsimp only at hSw); go_simp; try (with_reducible rfl))
              case q1_6r =>
                simp only [Act.put, List.getElem_toArray, List.getElem_cons_succ, List.getElem_cons_zero, List.setIfInBounds_toArray, List.set_cons_zero, List.set_cons_succ]
                refine wpAnyH_take (i := 6) (oi := _) (v := ?q1_7v) rfl (by kernel_rfl) (by kernel_rfl) (by kernel_rfl) (fun _ _ _ h => h) (Or.inl ⟨by rfl, ?q1_7y⟩) (by assumption) ?q1_7r
                case q1_7y => (intro w0 hSw; (try dsimp only at hSw); go_simp; try (with_reducible rfl))
                case q1_7r =>
                  simp only [Act.put, List.getElem_toArray, List.getElem_cons_succ, List.getElem_cons_zero, List.setIfInBounds_toArray, List.set_cons_zero, List.set_cons_succ]
                  refine wpAnyH_take (i := 8) (oi := _) (v := ?q1_8v) rfl (by kernel_rfl) (by kernel_rfl) (by kernel_rfl) (fun _ _ _ h => h) (Or.inl ⟨by rfl, ?q1_8y⟩) (by assumption) ?q1_8r
                  case q1_8y => (intro w0 hSw; (try dsimp only at hSw); go_simp; try (with_reducible rfl))
                  case q1_8r =>
                    simp only [Act.put, List.getElem_toArray, List.getElem_cons_succ, List.getElem_cons_zero, List.setIfInBounds_toArray, List.set_cons_zero, List.set_cons_succ]
                    refine wpAnyH_take (i := 9) (oi := _) (v := ?q1_9v) rfl (by kernel_rfl) (by kernel_rfl) (by kernel_rfl) (fun _ _ _ h => h) (Or.inl ⟨by rfl, ?q1_9y⟩) (by assumption) ?q1_9r
                    case q1_9y => (intro w0 hSw; (try dsimp only at hSw); go_simp; try (with_reducible rfl))
                    case q1_9r =>
                      simp only [Act.put, List.getElem_toArray, List.getElem_cons_succ, List.getElem_cons_zero, List.setIfInBounds_toArray, List.set_cons_zero, List.set_cons_succ]
                      refine wpAnyH_take (i := 10) (oi := _) (v := ?q1_10v) rfl (by kernel_rfl) (by kernel_rfl) (by kernel_rfl) (fun _ _ _ h => h) (Or.inl ⟨by rfl, ?q1_10y⟩) (by assumption) ?q1_10r
                      case q1_10y => (intro w0 hSw; (try dsimp only at hSw); go_simp; try (with_reducible rfl))
                      case q1_10r =>
                        simp only [Act.put, List.getElem_toArray, List.getElem_cons_succ, List.getElem_cons_zero, List.setIfInBounds_toArray, List.set_cons_zero, List.set_cons_succ]
                        refine wpAnyH_take (i := 11) (oi := _) (v := ?q1_11v) rfl (by kernel_rfl) (by kernel_rfl) (by kernel_rfl) (fun _ _ _ h => h) (Or.inl ⟨by rfl, ?q1_11y⟩) (by assumption) ?q1_11r
                        case q1_11y => (intro w0 hSw; (try dsimp only at hSw); go_simp; try (with_reducible rfl))
                        case q1_11r =>
                          simp only [Act.put, List.getElem_toArray, List.getElem_cons_succ, List.getElem_cons_zero, List.setIfInBounds_toArray, List.set_cons_zero, List.set_cons_succ]
                          refine wpAnyH_take (i := 12) (oi := _) (v := ?q1_12v) rfl (by kernel_rfl) (by kernel_rfl) (by kernel_rfl) (fun _ _ _ h => h) (Or.inl ⟨by rfl, ?q1_12y⟩) (by assumption) ?q1_12r
                          case q1_12y => (intro w0 hSw; (try dsimp only at hSw); go_simp; try (with_reducible rfl))
                          case q1_12r =>
                            simp only [Act.put, List.getElem_toArray, List.getElem_cons_succ, List.getElem_cons_zero, List.setIfInBounds_toArray, List.set_cons_zero, List.set_cons_succ]
                            refine wpAnyH_take (i := 13) (oi := _) (v := ?q1_13v) rfl (by kernel_rfl) (by kernel_rfl) (by kernel_rfl) (fun _ _ _ h => h) (Or.inl ⟨by rfl, ?q1_13y⟩) (by assumption) ?q1_13r
                            case q1_13y => (intro w0 hSw; (try dsimp only at hSw); go_simp; try (with_reducible rfl))
                            case q1_13r =>
                              simp only [Act.put, List.getElem_toArray, List.getElem_cons_succ, List.getElem_cons_zero, List.setIfInBounds_toArray, List.set_cons_zero, List.set_cons_succ]
                              refine wpAnyH_ready (rs := [7]) (by kernel_rfl) (by simp) ?q1_14g
                              case q1_14g =>
                                refine AllReadyH.cons (o := _) rfl (fun K hK => ?q1_14k) AllReadyH.nil
                                case q1_14k =>
                                  go_simp
                                  (refine (hL.out).mono ?_; rintro e w9 ⟨g, rfl, hN9, hg9, hD9, hk9⟩; have hk9' := Lib.hid hk9; have hD9' := Lib.hid hD9; have hg9' := Lib.hid hg9; have cg : w9.cell? ⟨g, r, none⟩ = some (.int .u64 v) := (by rw [cell_of_heap hN9, ← hat'.out]; exact ncells_get (by rw [hlen'.out]; exact hrl)); clear hk9 hD9 hg9 hN9)
                                  refine hK.out _ _ ?q1_14s (fun hHeld => ?q1_14t)
                                  case q1_14s => (try dsimp only); first | exact ⟨hm, hk, c2⟩ | exact ⟨(hT.out _ hk9'.out).1, (hT.out _ hk9'.out).2, hD9'.out.c2⟩
                                  case q1_14t =>
                                    clear hK K
                                    try simp only [Act.put, List.getElem_toArray, List.getElem_cons_succ, List.getElem_cons_zero, List.setIfInBounds_toArray, List.set_cons_zero, List.set_cons_succ]
                                    refine wpAnyH_take (i := 14) (oi := _) (v := ?q1_15v) rfl (by kernel_rfl) (by kernel_rfl) (by kernel_rfl) (fun _ _ _ h => h) (Or.inl ⟨by rfl, ?q1_15y⟩) (by assumption) ?q1_15r
                                    case q1_15y => (intro w0 hSw; (try dsimp only at hSw); go_simp; try (with_reducible rfl))
                                    case q1_15r =>
                                      simp only [Act.put, List.getElem_toArray, List.getElem_cons_succ, List.getElem_cons_zero, List.setIfInBounds_toArray, List.set_cons_zero, List.set_cons_succ]
                                      refine wpAnyH_ready (rs := [15]) (by kernel_rfl) (by simp) ?q1_16g
                                      case q1_16g =>
                                        refine AllReadyH.cons (o := _) rfl (fun K hK => ?q1_16k) AllReadyH.nil
                                        case q1_16k =>
                                          go_simp
                                          refine hK.out _ _ ?q1_16s (fun hHeld => ?q1_16t)
                                          case q1_16s => (try dsimp only); first | exact ⟨hm, hk, c2⟩ | exact ⟨(hT.out _ hk9'.out).1, (hT.out _ hk9'.out).2, hD9'.out.c2⟩
                                          case q1_16t =>
                                            clear hK K
                                            try simp only [Act.put, List.getElem_toArray, List.getElem_cons_succ, List.getElem_cons_zero, List.setIfInBounds_toArray, List.set_cons_zero, List.set_cons_succ]
                                            refine wpAnyH_take (i := 16) (oi := _) (v := ?q1_17v) rfl (by kernel_rfl) (by kernel_rfl) (by kernel_rfl) (fun _ _ _ h => h) (Or.inl ⟨by rfl, ?q1_17y⟩) (by assumption) ?q1_17r
                                            case q1_17y => (intro w0 hSw; (try dsimp only at hSw); go_simp; try (with_reducible rfl))
                                            case q1_17r =>
                                              simp only [Act.put, List.getElem_toArray, List.getElem_cons_succ, List.getElem_cons_zero, List.setIfInBounds_toArray, List.set_cons_zero, List.set_cons_succ]
                                              refine wpAnyH_done (by kernel_rfl) ?q1z _
                                              case q1z =>
                                                have hw9 := Lib.hid (show Keeps O w w9 from ((Keeps.refl O w).drew).trans hk9'.out)
                                                have hPut := Lib.hid (dput_walk hD9'.out ⟨k, v, false⟩ hnd'.out hkr'.out (hb'.out.loaded.mono (by decide)))
                                                rw [hR'.out] at hPut
                                                have hn9 := Lib.hid (hw9.out.heap hnv.out hno'.out)
                                                by_cases hc : R.1 = 0
                                                · have hre : resE R.1 = .returned (.tuple #[]) := if_pos hc
                                                  rw [hre] at hPut
                                                  have hre' := Lib.hid hre
                                                  have hc' := Lib.hid hc
                                                  clear hre hc
                                                  go_wp2_with fail
                                                  refine (hPut.out).mono ?_
                                                  rintro e w10 ⟨rfl, O', hD10, hk10, hg10⟩
                                                  have hn10 := hk10.heap hn9.out hno'.out
                                                  have cn := cell_of_heap hn10 0
                                                  have fn := frozen_of_heap hn10
                                                  simp at cn
                                                  have hE := Lib.hid (show Keeps (fun j => O j ∨ j = nv) w (w10.setCell ⟨nv, 0, none⟩ (.int .u64 v)) from ((hw9.out.trans hk10).mono (fun _ h => .inl h)).setCell (p := ⟨nv, 0, none⟩) (.inl (.inr rfl)) _)
                                                  have hn11 := Lib.hid (heap_setCell_same hn10 0 (.int .u64 v))
                                                  have hD11 := Lib.hid (hD10.keeps ((Keeps.refl (· = nv) w10).setCell (p := ⟨nv, 0, none⟩) (.inl rfl) (.int .u64 v)) (fun j hj e => (hg10 j hj).elim (fun h => hno'.out (by rw [← e]; exact h)) (fun h => by have := lt_of_heap hn9.out; omega)))
                                                  have hg11 := Lib.hid (show Grow O O' w (w10.setCell ⟨nv, 0, none⟩ (.int .u64 v)) from fun j hj => (hg10 j hj).imp (fun h => h) (fun h => ⟨Nat.le_trans hw9.out.size h.1, by simp [World.setCell]; exact h.2⟩))
                                                  clear hD10 hk10 hg10 hn10
                                                  go_wp2_with fail
                                                  go_end0
                                                  refine ⟨hre'.out.symm, O', hD11.out, hE.out, hg11.out, ?_⟩
                                                  unfold okV
                                                  rw [if_pos hc'.out, hn11.out]
                                                  rfl
                                                · have hre : resE R.1 = tornE R.1 := if_neg hc
                                                  rw [hre] at hPut
                                                  have hre' := Lib.hid hre
                                                  have hc' := Lib.hid hc
                                                  clear hre hc
                                                  go_wp2_with fail
                                                  refine (hPut.out).mono ?_
                                                  rintro e w10 ⟨rfl, O', hD10, hk10, hg10⟩
                                                  refine ⟨rfl, hre'.out.symm, O', hD10, (hw9.out.trans hk10).mono (fun _ h => .inl h), fun j hj => (hg10 j hj).imp (fun h => h) (fun h => ⟨Nat.le_trans hw9.out.size h.1, h.2⟩), ?_⟩
                                                  unfold okV
                                                  rw [if_neg hc'.out]
                                                  exact hk10.heap hn9.out hno'.out
set_option maxHeartbeats 4000000 in
set_option maxRecDepth 100000 in
theorem get53_bad (h : DfAt w db pb keys most D O) {mv kv nv : Nat} (k : Int) (hm : w.cell? ⟨mv, 0, none⟩ = some (.pointer (some ⟨db, 0, none⟩)))
    (hk : w.cell? ⟨kv, 0, none⟩ = some (.int .i64 k)) (hn : w.heap[nv]? = some (.cells #[.int .u64 0] 30 (0, 0))) (hno : ¬ O nv) (hk0 : 0 ≤ k) (hb : D.P.Lt 10000000) (hf : D.P.fails = true) :
    Calls Try.prog 53 #[.pointer (some ⟨mv, 0, none⟩), .pointer (some ⟨kv, 0, none⟩), .pointer (some ⟨nv, 0, none⟩)] w fun e w' => e = resE 200 ∧ GetIn w db pb keys most O nv 0 D.loaded w' := by
  obtain ⟨hln, hm1, hm2, hy1, hy2, hp1, hp2⟩ := h.lenB
  have c2 := h.c2
  have hp0 : ¬ D.P.per = 0 := by omega
  obtain ⟨n, hq⟩ : ∃ n : Int, k / (D.P.per : Int) = n := ⟨_, rfl⟩
  have htd : k.tdiv (D.P.per : Int) = n := by rw [Int.tdiv_eq_ediv_of_nonneg hk0, hq]
  obtain ⟨n', hn'⟩ : ∃ n', IntKind.i64.wrap n = n' := ⟨_, rfl⟩
  obtain ⟨r, hr⟩ : ∃ r, k.tmod (D.P.per : Int) = r := ⟨_, rfl⟩
  obtain ⟨r', hr'⟩ : ∃ r', IntKind.i64.wrap r = r' := ⟨_, rfl⟩
  have hL := Lib.hid (dload_bad (h.keeps ((Keeps.refl Nil w).drew) (fun _ _ h => h)) n' (hb.mono (by decide)) hf)
  have hno' := Lib.hid hno
  have hnv := Lib.hid hn
  clear h hb hf hq hno hn
  go_enter Try.func53, Try.ntmps53
  go_wp2_with fail
  refine wp_region_held_drew (S := fun W => W.cell? ⟨mv, 0, none⟩ = some (.pointer (some ⟨db, 0, none⟩)) ∧ W.cell? ⟨kv, 0, none⟩ = some (.int .i64 k) ∧ W.cell? ⟨db, 2, none⟩ = some (.int .i64 (D.P.per : Nat))) (by kernel_rfl) ?q2a (fun hHeld => ?q2b)
  case q2a => (try dsimp only); exact ⟨hm, hk, c2⟩
  case q2b =>
    refine wpAnyH_take (i := 0) (oi := _) (v := ?q2_1v) rfl (by kernel_rfl) (by kernel_rfl) (by kernel_rfl) (fun _ _ _ h => h) (Or.inl ⟨by rfl, ?q2_1y⟩) (by assumption) ?q2_1r
    case q2_1y => (intro w0 hSw; (try dsimp only at hSw); go_simp; try (with_reducible rfl))
    case q2_1r =>
      simp only [Act.put, List.getElem_toArray, List.getElem_cons_zero, List.setIfInBounds_toArray, List.set_cons_zero, List.set_cons_succ]
      refine wpAnyH_take (i := 1) (oi := _) (v := ?q2_2v) rfl (by kernel_rfl) (by kernel_rfl) (by kernel_rfl) (fun _ _ _ h => h) (Or.inl ⟨by rfl, ?q2_2y⟩) (by assumption) ?q2_2r
      case q2_2y => (intro w0 hSw; (try dsimp only at hSw); go_simp; try (with_reducible rfl))
      case q2_2r =>
        simp only [Act.put, List.getElem_toArray, List.getElem_cons_succ, List.getElem_cons_zero, List.setIfInBounds_toArray, List.set_cons_zero, List.set_cons_succ]
        refine wpAnyH_take (i := 2) (oi := _) (v := ?q2_3v) rfl (by kernel_rfl) (by kernel_rfl) (by kernel_rfl) (fun _ _ _ h => h) (Or.inl ⟨by rfl, ?q2_3y⟩) (by assumption) ?q2_3r
        case q2_3y => (intro w0 hSw; (try dsimp only at hSw); go_simp; try (with_reducible rfl))
        case q2_3r =>
          simp only [Act.put, List.getElem_toArray, List.getElem_cons_succ, List.getElem_cons_zero, List.setIfInBounds_toArray, List.set_cons_zero, List.set_cons_succ]
          refine wpAnyH_take (i := 3) (oi := _) (v := ?q2_4v) rfl (by kernel_rfl) (by kernel_rfl) (by kernel_rfl) (fun _ _ _ h => h) (Or.inl ⟨by rfl, ?q2_4y⟩) (by assumption) ?q2_4r
          case q2_4y => (intro w0 hSw; (try dsimp only at hSw); go_simp; try (with_reducible rfl))
          case q2_4r =>
            simp only [Act.put, List.getElem_toArray, List.getElem_cons_succ, List.getElem_cons_zero, List.setIfInBounds_toArray, List.set_cons_zero, List.set_cons_succ]
            refine wpAnyH_take (i := 4) (oi := _) (v := ?q2_5v) rfl (by kernel_rfl) (by kernel_rfl) (by kernel_rfl) (fun _ _ _ h => h) (Or.inl ⟨by rfl, ?q2_5y⟩) (by assumption) ?q2_5r
            case q2_5y => (intro w0 hSw; (try dsimp only at hSw); go_simp; try (with_reducible rfl))
            case q2_5r =>
              simp only [Act.put, List.getElem_toArray, List.getElem_cons_succ, List.getElem_cons_zero, List.setIfInBounds_toArray, List.set_cons_zero, List.set_cons_succ]
              refine wpAnyH_take (i := 5) (oi := _) (v := ?q2_6v) rfl (by kernel_rfl) (by kernel_rfl) (by kernel_rfl) (fun _ _ _ h => h) (Or.inl ⟨by rfl, ?q2_6y⟩) (by assumption) ?q2_6r
              case q2_6y => (intro w0 hSw; (try dsimp only at hSw); go_simp; try (with_reducible rfl))
              case q2_6r =>
                simp only [Act.put, List.getElem_toArray, List.getElem_cons_succ, List.getElem_cons_zero, List.setIfInBounds_toArray, List.set_cons_zero, List.set_cons_succ]
                refine wpAnyH_take (i := 6) (oi := _) (v := ?q2_7v) rfl (by kernel_rfl) (by kernel_rfl) (by kernel_rfl) (fun _ _ _ h => h) (Or.inl ⟨by rfl, ?q2_7y⟩) (by assumption) ?q2_7r
                case q2_7y => (intro w0 hSw; (try dsimp only at hSw); go_simp; try (with_reducible rfl))
                case q2_7r =>
                  simp only [Act.put, List.getElem_toArray, List.getElem_cons_succ, List.getElem_cons_zero, List.setIfInBounds_toArray, List.set_cons_zero, List.set_cons_succ]
                  refine wpAnyH_take (i := 8) (oi := _) (v := ?q2_8v) rfl (by kernel_rfl) (by kernel_rfl) (by kernel_rfl) (fun _ _ _ h => h) (Or.inl ⟨by rfl, ?q2_8y⟩) (by assumption) ?q2_8r
                  case q2_8y => (intro w0 hSw; (try dsimp only at hSw); go_simp; try (with_reducible rfl))
                  case q2_8r =>
                    simp only [Act.put, List.getElem_toArray, List.getElem_cons_succ, List.getElem_cons_zero, List.setIfInBounds_toArray, List.set_cons_zero, List.set_cons_succ]
                    refine wpAnyH_take (i := 9) (oi := _) (v := ?q2_9v) rfl (by kernel_rfl) (by kernel_rfl) (by kernel_rfl) (fun _ _ _ h => h) (Or.inl ⟨by rfl, ?q2_9y⟩) (by assumption) ?q2_9r
                    case q2_9y => (intro w0 hSw; (try dsimp only at hSw); go_simp; try (with_reducible rfl))
                    case q2_9r =>
                      simp only [Act.put, List.getElem_toArray, List.getElem_cons_succ, List.getElem_cons_zero, List.setIfInBounds_toArray, List.set_cons_zero, List.set_cons_succ]
                      refine wpAnyH_take (i := 10) (oi := _) (v := ?q2_10v) rfl (by kernel_rfl) (by kernel_rfl) (by kernel_rfl) (fun _ _ _ h => h) (Or.inl ⟨by rfl, ?q2_10y⟩) (by assumption) ?q2_10r
                      case q2_10y => (intro w0 hSw; (try dsimp only at hSw); go_simp; try (with_reducible rfl))
                      case q2_10r =>
                        simp only [Act.put, List.getElem_toArray, List.getElem_cons_succ, List.getElem_cons_zero, List.setIfInBounds_toArray, List.set_cons_zero, List.set_cons_succ]
                        refine wpAnyH_take (i := 11) (oi := _) (v := ?q2_11v) rfl (by kernel_rfl) (by kernel_rfl) (by kernel_rfl) (fun _ _ _ h => h) (Or.inl ⟨by rfl, ?q2_11y⟩) (by assumption) ?q2_11r
                        case q2_11y => (intro w0 hSw; (try dsimp only at hSw); go_simp; try (with_reducible rfl))
                        case q2_11r =>
                          simp only [Act.put, List.getElem_toArray, List.getElem_cons_succ, List.getElem_cons_zero, List.setIfInBounds_toArray, List.set_cons_zero, List.set_cons_succ]
                          refine wpAnyH_take (i := 12) (oi := _) (v := ?q2_12v) rfl (by kernel_rfl) (by kernel_rfl) (by kernel_rfl) (fun _ _ _ h => h) (Or.inl ⟨by rfl, ?q2_12y⟩) (by assumption) ?q2_12r
                          case q2_12y => (intro w0 hSw; (try dsimp only at hSw); go_simp; try (with_reducible rfl))
                          case q2_12r =>
                            simp only [Act.put, List.getElem_toArray, List.getElem_cons_succ, List.getElem_cons_zero, List.setIfInBounds_toArray, List.set_cons_zero, List.set_cons_succ]
                            refine wpAnyH_take (i := 13) (oi := _) (v := ?q2_13v) rfl (by kernel_rfl) (by kernel_rfl) (by kernel_rfl) (fun _ _ _ h => h) (Or.inl ⟨by rfl, ?q2_13y⟩) (by assumption) ?q2_13r
                            case q2_13y => (intro w0 hSw; (try dsimp only at hSw); go_simp; try (with_reducible rfl))
                            case q2_13r =>
                              simp only [Act.put, List.getElem_toArray, List.getElem_cons_succ, List.getElem_cons_zero, List.setIfInBounds_toArray, List.set_cons_zero, List.set_cons_succ]
                              refine wpAnyH_ready (rs := [7]) (by kernel_rfl) (by simp) ?q2_14g
                              case q2_14g =>
                                refine AllReadyH.cons (o := _) rfl (fun K hK => ?q2_14k) AllReadyH.nil
                                case q2_14k =>
                                  go_simp
                                  (refine (hL.out).mono ?_; rintro e w5 ⟨rfl, O', h1, h2, h3⟩; exact ⟨rfl, rfl, O', h1, ((Keeps.refl _ w).drew).trans (h2.mono (fun _ h => Or.inl h)), h3, h2.heap (((Keeps.refl Nil w).drew).heap hnv.out (fun h => h)) hno'.out⟩)
end Go.Proofs.Ytnickcjkipemmaa
