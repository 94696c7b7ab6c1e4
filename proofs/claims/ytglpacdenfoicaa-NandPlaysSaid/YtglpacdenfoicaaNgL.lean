/- NandPlays: alike -/
import Derived.Test.YtglpacdenfoicaaNgH
import Derived.Test.YtglpacdenfoicaaNeQ
namespace Go.Proofs.Ytglpacdenfoicaa
section
open Go.RowKit

def pickI (c n : Int) : Int := if absI c % 29 = 28 then n else if absI c % 31 = 30 then -1 else absI c % n
set_option maxHeartbeats 2000000 in
theorem picked43 (c : Int) (n : Nat) (w : World) (h0 : -9223372036854775808 ≤ c) (h1 : c ≤ 9223372036854775807) (hn : 0 < n) : Calls Try.prog 43 #[.int .i64 c, .int .i64 (n : Nat)] w fun e w' => e = .returned (.int .i64 (pickI c n)) ∧ w' = w := by
  obtain ⟨q, hq, e1, e1'⟩ := mod_nat 29 (by decide) (absI_nonneg c)
  obtain ⟨r, hr, e2, e2'⟩ := mod_nat 31 (by decide) (absI_nonneg c)
  obtain ⟨s, hs, e3, e3'⟩ := mod_nat n hn (absI_nonneg c)
  rw [show ((29 : Nat) : Int) = 29 from rfl] at e1 e1'
  rw [show ((31 : Nat) : Int) = 31 from rfl] at e2 e2'
  have hp : pickI c n = if q = 28 then (n : Int) else if r = 30 then -1 else (s : Int) := by
    unfold pickI
    rw [e1', e2', e3']
    by_cases a : q = 28
    · rw [if_pos (by omega), if_pos a]
    · rw [if_neg (by omega), if_neg a]
      by_cases b : r = 30
      · rw [if_pos (by omega), if_pos b]
      · rw [if_neg (by omega), if_neg b]
  rw [hp]
  have hn0 : ¬ ((n : Int) = 0) := by omega
  obtain ⟨a, ha⟩ : ∃ a, absI c = a := ⟨_, rfl⟩
  rw [ha] at e1 e1' e2 e2' e3 e3'
  have hz : (c < 0 ∧ a = -(c + 1)) ∨ (¬ c < 0 ∧ a = c) := by
    rw [← ha]
    unfold absI
    by_cases h : c < 0
    · rw [if_pos h]; exact .inl ⟨h, rfl⟩
    · rw [if_neg h]; exact .inr ⟨h, rfl⟩
  clear hp ha
  by_cases a1 : q = 28
  · rw [if_pos a1]
    subst a1
    rcases hz with ⟨z1, rfl⟩ | ⟨z1, rfl⟩
    all_goals
      go_enter Try.func43, Try.ntmps43
      go_wp2_with fail
      go_ret
      exact ⟨rfl, rfl⟩
  · rw [if_neg a1]
    have a2 : ((q : Int) == 28) = false := by simp only [beq_eq_false_iff_ne, ne_eq]; omega
    have a3 : ¬ ((q : Int) = 28) := by omega
    by_cases b1 : r = 30
    · rw [if_pos b1]
      subst b1
      rcases hz with ⟨z1, rfl⟩ | ⟨z1, rfl⟩
      all_goals
        go_enter Try.func43, Try.ntmps43
        go_wp2_with fail
        go_ret
        exact ⟨rfl, rfl⟩
    · rw [if_neg b1]
      have b2 : ((r : Int) == 30) = false := by simp only [beq_eq_false_iff_ne, ne_eq]; omega
      have b3 : ¬ ((r : Int) = 30) := by omega
      rcases hz with ⟨z1, rfl⟩ | ⟨z1, rfl⟩
      all_goals
        go_enter Try.func43, Try.ntmps43
        go_wp2_with fail
        go_ret
        exact ⟨rfl, rfl⟩
theorem pickI_in {c : Int} {n : Nat} (hn : 0 < n) : -1 ≤ pickI c n ∧ pickI c n ≤ (n : Int) := by
  unfold pickI
  have := Int.emod_nonneg (absI c) (show (n : Int) ≠ 0 by omega)
  have := Int.emod_lt_of_pos (absI c) (show (0 : Int) < (n : Int) by omega)
  split
  · omega
  · split <;> omega
end
section
open Go.RowKit

variable {w w0 : World} {ab b b' : Nat} {A : Nd} {P : RfP} {O O' : Nat → Prop}
set_option maxHeartbeats 8000000 in
set_option maxRecDepth 100000 in
theorem alike24 (h : NdO w0 w ab A b O) (hr : RfO w0 w P A b' O') : Calls Try.prog 24 #[.pointer (some ⟨ab, 0, none⟩), .pointer (some ⟨P.rb, 0, none⟩)] w fun e w' => e = .returned (.bool true) ∧ Keeps Nil w w' := by
  have c0 := RfB.cell hr.q 0
  have c1 := RfB.cell hr.q 1
  have c2 := RfB.cell hr.q 2
  have c3 := RfB.cell hr.q 3
  have c7 := RfB.cell hr.q 7
  have c8 := RfB.cell hr.q 8
  have c9 := RfB.cell hr.q 9
  have c10 := RfB.cell hr.q 10
  have c11 := RfB.cell hr.q 11
  have c12 := RfB.cell hr.q 12
  have c13 := RfB.cell hr.q 13
  have c14 := RfB.cell hr.q 14
  simp only [rfCells, List.getElem?_toArray, List.getElem?_cons_zero, List.getElem?_cons_succ] at c0 c1 c2 c3 c7 c8 c9 c10 c11 c12 c13 c14
  have hOps := Lib.hid (fun W (hk : Keeps Nil w W) => opsI_any (h.nil hk))
  have hPow := Lib.hid (fun W (hk : Keeps Nil w W) => powerI_any (h.nil hk))
  have hEv := Lib.hid (fun W (hk : Keeps Nil w W) => eventsI_any (h.nil hk))
  have hSh := Lib.hid (fun W (hk : Keeps Nil w W) => shapeI_any (h.nil hk))
  have hlen : P.L.length ≤ 2000 := by
    have h1 := congrArg List.length (RfB.fls hr.q)
    simp only [List.length_map] at h1
    have := hr.good.ok.len; omega
  have hNa := Lib.hid (fun W (hk : Keeps Nil w W) d n => nextI_any (h.nil hk) d n)
  have hEa := Lib.hid (fun W (hk : Keeps Nil w W) d n => erasesI_any (h.nil hk) d n)
  have hMa := Lib.hid (fun W (hk : Keeps Nil w W) d n => markedI_any (h.nil hk) d n)
  have hNr := Lib.hid (fun W (hk : Keeps Nil w W) d n => next44 (RfB.nil hr.q hk) hr.good.ok.S d n)
  have hEr := Lib.hid (fun W (hk : Keeps Nil w W) d n => erases50 (RfB.nil hr.q hk) hr.good.ok.S d n)
  have hMr := Lib.hid (fun W (hk : Keeps Nil w W) d n => marked52 (RfB.nil hr.q hk) hlen d n)
  have hd8 := hr.good.ok.S.d2
  have hb64 := hr.good.ok.S.b2
  unfold evCells at hEv
  obtain ⟨D, hD⟩ : ∃ D, A.S.dies = D := ⟨_, rfl⟩
  obtain ⟨N, hN⟩ : ∃ N, A.S.blocks = N := ⟨_, rfl⟩
  obtain ⟨of, hof⟩ : ∃ o, A.off = o := ⟨_, rfl⟩
  obtain ⟨ops, hops⟩ : ∃ o : Int, ((A.ops : Nat) : Int) = o := ⟨_, rfl⟩
  rw [hD] at c0 hSh hd8
  rw [hN] at c1 hSh hb64
  rw [hof] at c7 hPow
  rw [hops] at c8 hOps
  have hS := Lib.hid (show ∀ W, Keeps Nil w W → W.cell? ⟨P.rb, 8, none⟩ = some (.int .i64 ops) ∧ W.cell? ⟨P.rb, 7, none⟩ = some (.bool of) ∧ W.cell? ⟨P.rb, 9, none⟩ = some (.int .i64 (A.reads : Nat)) ∧ W.cell? ⟨P.rb, 10, none⟩ = some (.int .i64 (A.programs : Nat)) ∧ W.cell? ⟨P.rb, 11, none⟩ = some (.int .i64 (A.erases : Nat)) ∧ W.cell? ⟨P.rb, 12, none⟩ = some (.int .i64 A.flips) ∧ W.cell? ⟨P.rb, 13, none⟩ = some (.int .i64 (A.fails : Nat)) ∧ W.cell? ⟨P.rb, 14, none⟩ = some (.int .i64 (A.cuts : Nat)) ∧ W.cell? ⟨P.rb, 0, none⟩ = some (.int .i64 (D : Nat)) ∧ W.cell? ⟨P.rb, 1, none⟩ = some (.int .i64 (N : Nat)) ∧ W.cell? ⟨P.rb, 2, none⟩ = some (.int .i64 (A.S.pages : Nat)) ∧ W.cell? ⟨P.rb, 3, none⟩ = some (.int .i64 (A.S.bytes : Nat)) from fun W hk => ⟨hk.cell c8 (fun h => h), hk.cell c7 (fun h => h), hk.cell c9 (fun h => h), hk.cell c10 (fun h => h), hk.cell c11 (fun h => h), hk.cell c12 (fun h => h), hk.cell c13 (fun h => h), hk.cell c14 (fun h => h), hk.cell c0 (fun h => h), hk.cell c1 (fun h => h), hk.cell c2 (fun h => h), hk.cell c3 (fun h => h)⟩)
  clear h hr hD hN hof hops c0 c1 c2 c3 c7 c8 c9 c10 c11 c12 c13 c14 hlen
  have e1 : (ops != ops) = false := by simp
  have e2 : ∀ v : Bool, ((!v) == v) = false := by intro v; cases v <;> rfl
  go_enter Try.func24, Try.ntmps24
  go_upto_region 1 with (fail)
  refine wp_region_held_drew (S := fun W => W.cell? ⟨P.rb, 8, none⟩ = some (.int .i64 ops) ∧ W.cell? ⟨P.rb, 7, none⟩ = some (.bool of) ∧ W.cell? ⟨P.rb, 9, none⟩ = some (.int .i64 (A.reads : Nat)) ∧ W.cell? ⟨P.rb, 10, none⟩ = some (.int .i64 (A.programs : Nat)) ∧ W.cell? ⟨P.rb, 11, none⟩ = some (.int .i64 (A.erases : Nat)) ∧ W.cell? ⟨P.rb, 12, none⟩ = some (.int .i64 A.flips) ∧ W.cell? ⟨P.rb, 13, none⟩ = some (.int .i64 (A.fails : Nat)) ∧ W.cell? ⟨P.rb, 14, none⟩ = some (.int .i64 (A.cuts : Nat)) ∧ W.cell? ⟨P.rb, 0, none⟩ = some (.int .i64 (D : Nat)) ∧ W.cell? ⟨P.rb, 1, none⟩ = some (.int .i64 (N : Nat)) ∧ W.cell? ⟨P.rb, 2, none⟩ = some (.int .i64 (A.S.pages : Nat)) ∧ W.cell? ⟨P.rb, 3, none⟩ = some (.int .i64 (A.S.bytes : Nat))) (by kernel_rfl) ?q1a (fun hHeld => ?q1b)
  case q1a => (try dsimp only); first | exact hS.out _ (Keeps.refl Nil w).drew | exact hS.out _ k5.out | exact hS.out _ k6.out
  case q1b =>
    refine wpAnyH_take (i := 0) (oi := _) (v := ?q1_1v) rfl (by kernel_rfl) (by kernel_rfl) (by kernel_rfl) (fun _ _ _ h => h) (Or.inl ⟨by rfl, ?q1_1y⟩) (by assumption) ?q1_1r
    case q1_1y => (intro w0 hSw; (try dsimp only at hSw); go_simp; try (with_reducible rfl))
    case q1_1r =>
      simp only [Act.put, List.getElem_toArray, List.getElem_cons_zero, List.setIfInBounds_toArray, List.set_cons_zero, List.set_cons_succ]
      refine wpAnyH_take (i := 2) (oi := _) (v := ?q1_2v) rfl (by kernel_rfl) (by kernel_rfl) (by kernel_rfl) (fun _ _ _ h => h) (Or.inl ⟨by rfl, ?q1_2y⟩) (by assumption) ?q1_2r
      case q1_2y => (intro w0 hSw; (try dsimp only at hSw); go_simp; try (with_reducible rfl))
      case q1_2r =>
        simp only [Act.put, List.getElem_toArray, List.getElem_cons_succ, List.getElem_cons_zero, List.setIfInBounds_toArray, List.set_cons_zero, List.set_cons_succ]
        refine wpAnyH_take (i := 3) (oi := _) (v := ?q1_3v) rfl (by kernel_rfl) (by kernel_rfl) (by kernel_rfl) (fun _ _ _ h => h) (Or.inl ⟨by rfl, ?q1_3y⟩) (by assumption) ?q1_3r
        case q1_3y => (intro w0 hSw; (try dsimp only at hSw); go_simp; try (with_reducible rfl))
        case q1_3r =>
          simp only [Act.put, List.getElem_toArray, List.getElem_cons_succ, List.getElem_cons_zero, List.setIfInBounds_toArray, List.set_cons_zero, List.set_cons_succ]
          refine wpAnyH_take (i := 4) (oi := _) (v := ?q1_4v) rfl (by kernel_rfl) (by kernel_rfl) (by kernel_rfl) (fun _ _ _ h => h) (Or.inl ⟨by rfl, ?q1_4y⟩) (by assumption) ?q1_4r
          case q1_4y => (intro w0 hSw; (try dsimp only at hSw); go_simp; try (with_reducible rfl))
          case q1_4r =>
            simp only [Act.put, List.getElem_toArray, List.getElem_cons_succ, List.getElem_cons_zero, List.setIfInBounds_toArray, List.set_cons_zero, List.set_cons_succ]
            refine wpAnyH_take (i := 5) (oi := _) (v := ?q1_5v) rfl (by kernel_rfl) (by kernel_rfl) (by kernel_rfl) (fun _ _ _ h => h) (Or.inl ⟨by rfl, ?q1_5y⟩) (by assumption) ?q1_5r
            case q1_5y => (intro w0 hSw; (try dsimp only at hSw); go_simp; try (with_reducible rfl))
            case q1_5r =>
              simp only [Act.put, List.getElem_toArray, List.getElem_cons_succ, List.getElem_cons_zero, List.setIfInBounds_toArray, List.set_cons_zero, List.set_cons_succ]
              refine wpAnyH_ready (rs := [1]) (by kernel_rfl) (by simp) ?q1_6g
              case q1_6g =>
                refine AllReadyH.cons (o := _) rfl (fun K hK => ?q1_6k) AllReadyH.nil
                case q1_6k =>
                  go_simp
                  (first | ((with_reducible refine (hOps.out _ (Keeps.refl Nil w).drew).mono ?_); rintro e w9 ⟨rfl, h9⟩; rw [h9]; clear h9 w9) | ((with_reducible refine (hPow.out _ (Keeps.refl Nil w).drew).mono ?_); rintro e w9 ⟨rfl, h9⟩; rw [h9]; clear h9 w9) | ((with_reducible refine (hEv.out _ (Keeps.refl Nil w).drew).mono ?_); rintro e w5 ⟨rfl, k5⟩; have k5 := Lib.hid ((Keeps.refl Nil w).drew.trans k5)) | ((with_reducible refine (hSh.out _ k5.out).mono ?_); rintro e w6 ⟨rfl, k6⟩; have k6 := Lib.hid (k5.out.trans k6)))
                  refine hK.out _ _ ?q1_6s (fun hHeld => ?q1_6t)
                  case q1_6s => (try dsimp only); first | exact hS.out _ (Keeps.refl Nil w).drew | exact hS.out _ k5.out | exact hS.out _ k6.out
                  case q1_6t =>
                    clear hK K
                    try simp only [Act.put, List.getElem_toArray, List.getElem_cons_succ, List.getElem_cons_zero, List.setIfInBounds_toArray, List.set_cons_zero, List.set_cons_succ]
                    refine wpAnyH_take (i := 6) (oi := _) (v := ?q1_7v) rfl (by kernel_rfl) (by kernel_rfl) (by kernel_rfl) (fun _ _ _ h => h) (Or.inl ⟨by rfl, ?q1_7y⟩) (by assumption) ?q1_7r
                    case q1_7y => (intro w0 hSw; (try dsimp only at hSw); go_simp; try (with_reducible rfl))
                    case q1_7r =>
                      simp only [Act.put, List.getElem_toArray, List.getElem_cons_succ, List.getElem_cons_zero, List.setIfInBounds_toArray, List.set_cons_zero, List.set_cons_succ]
                      refine wpAnyH_take (i := 7) (oi := _) (v := ?q1_8v) rfl (by kernel_rfl) (by kernel_rfl) (by kernel_rfl) (fun _ _ _ h => h) (Or.inl ⟨by rfl, ?q1_8y⟩) (by assumption) ?q1_8r
                      case q1_8y => (intro w0 hSw; (try dsimp only at hSw); go_simp; try (with_reducible rfl))
                      case q1_8r =>
                        simp only [Act.put, List.getElem_toArray, List.getElem_cons_succ, List.getElem_cons_zero, List.setIfInBounds_toArray, List.set_cons_zero, List.set_cons_succ]
                        refine wpAnyH_take (i := 8) (oi := _) (v := ?q1_9v) rfl (by kernel_rfl) (by kernel_rfl) (by kernel_rfl) (fun _ _ _ h => h) (Or.inl ⟨by rfl, ?q1_9y⟩) (by assumption) ?q1_9r
                        case q1_9y => (intro w0 hSw; (try dsimp only at hSw); go_simp; try (with_reducible rfl))
                        case q1_9r =>
                          simp only [Act.put, List.getElem_toArray, List.getElem_cons_succ, List.getElem_cons_zero, List.setIfInBounds_toArray, List.set_cons_zero, List.set_cons_succ]
                          refine wpAnyH_take (i := 10) (oi := _) (v := ?q1_10v) rfl (by kernel_rfl) (by kernel_rfl) (by kernel_rfl) (fun _ _ _ h => h) (Or.inl ⟨by rfl, ?q1_10y⟩) (by assumption) ?q1_10r
                          case q1_10y => (intro w0 hSw; (try dsimp only at hSw); go_simp; try (with_reducible rfl))
                          case q1_10r =>
                            simp only [Act.put, List.getElem_toArray, List.getElem_cons_succ, List.getElem_cons_zero, List.setIfInBounds_toArray, List.set_cons_zero, List.set_cons_succ]
                            refine wpAnyH_take (i := 11) (oi := _) (v := ?q1_11v) rfl (by kernel_rfl) (by kernel_rfl) (by kernel_rfl) (fun _ _ _ h => h) (Or.inl ⟨by rfl, ?q1_11y⟩) (by assumption) ?q1_11r
                            case q1_11y => (intro w0 hSw; (try dsimp only at hSw); go_simp; try (with_reducible rfl))
                            case q1_11r =>
                              simp only [Act.put, List.getElem_toArray, List.getElem_cons_succ, List.getElem_cons_zero, List.setIfInBounds_toArray, List.set_cons_zero, List.set_cons_succ]
                              refine wpAnyH_take (i := 12) (oi := _) (v := ?q1_12v) rfl (by kernel_rfl) (by kernel_rfl) (by kernel_rfl) (fun _ _ _ h => h) (Or.inl ⟨by rfl, ?q1_12y⟩) (by assumption) ?q1_12r
                              case q1_12y => (intro w0 hSw; (try dsimp only at hSw); go_simp; try (with_reducible rfl))
                              case q1_12r =>
                                simp only [Act.put, List.getElem_toArray, List.getElem_cons_succ, List.getElem_cons_zero, List.setIfInBounds_toArray, List.set_cons_zero, List.set_cons_succ]
                                refine wpAnyH_take (i := 13) (oi := _) (v := ?q1_13v) rfl (by kernel_rfl) (by kernel_rfl) (by kernel_rfl) (fun _ _ _ h => h) (Or.inl ⟨by rfl, ?q1_13y⟩) (by assumption) ?q1_13r
                                case q1_13y => (intro w0 hSw; (try dsimp only at hSw); go_simp; try (with_reducible rfl))
                                case q1_13r =>
                                  simp only [Act.put, List.getElem_toArray, List.getElem_cons_succ, List.getElem_cons_zero, List.setIfInBounds_toArray, List.set_cons_zero, List.set_cons_succ]
                                  refine wpAnyH_ready (rs := [9]) (by kernel_rfl) (by simp) ?q1_14g
                                  case q1_14g =>
                                    refine AllReadyH.cons (o := _) rfl (fun K hK => ?q1_14k) AllReadyH.nil
                                    case q1_14k =>
                                      go_simp
                                      (first | ((with_reducible refine (hOps.out _ (Keeps.refl Nil w).drew).mono ?_); rintro e w9 ⟨rfl, h9⟩; rw [h9]; clear h9 w9) | ((with_reducible refine (hPow.out _ (Keeps.refl Nil w).drew).mono ?_); rintro e w9 ⟨rfl, h9⟩; rw [h9]; clear h9 w9) | ((with_reducible refine (hEv.out _ (Keeps.refl Nil w).drew).mono ?_); rintro e w5 ⟨rfl, k5⟩; have k5 := Lib.hid ((Keeps.refl Nil w).drew.trans k5)) | ((with_reducible refine (hSh.out _ k5.out).mono ?_); rintro e w6 ⟨rfl, k6⟩; have k6 := Lib.hid (k5.out.trans k6)))
                                      refine hK.out _ _ ?q1_14s (fun hHeld => ?q1_14t)
                                      case q1_14s => (try dsimp only); first | exact hS.out _ (Keeps.refl Nil w).drew | exact hS.out _ k5.out | exact hS.out _ k6.out
                                      case q1_14t =>
                                        clear hK K
                                        try simp only [Act.put, List.getElem_toArray, List.getElem_cons_succ, List.getElem_cons_zero, List.setIfInBounds_toArray, List.set_cons_zero, List.set_cons_succ]
                                        refine wpAnyH_take (i := 14) (oi := _) (v := ?q1_15v) rfl (by kernel_rfl) (by kernel_rfl) (by kernel_rfl) (fun _ _ _ h => h) (Or.inl ⟨by rfl, ?q1_15y⟩) (by assumption) ?q1_15r
                                        case q1_15y => (intro w0 hSw; (try dsimp only at hSw); go_simp; try (with_reducible rfl))
                                        case q1_15r =>
                                          simp only [Act.put, List.getElem_toArray, List.getElem_cons_succ, List.getElem_cons_zero, List.setIfInBounds_toArray, List.set_cons_zero, List.set_cons_succ]
                                          refine wpAnyH_take (i := 15) (oi := _) (v := ?q1_16v) rfl (by kernel_rfl) (by kernel_rfl) (by kernel_rfl) (fun _ _ _ h => h) (Or.inl ⟨by rfl, ?q1_16y⟩) (by assumption) ?q1_16r
                                          case q1_16y => (intro w0 hSw; (try dsimp only at hSw); go_simp; try (with_reducible rfl))
                                          case q1_16r =>
                                            simp only [Act.put, List.getElem_toArray, List.getElem_cons_succ, List.getElem_cons_zero, List.setIfInBounds_toArray, List.set_cons_zero, List.set_cons_succ]
                                            refine wpAnyH_take (i := 16) (oi := _) (v := ?q1_17v) rfl (by kernel_rfl) (by kernel_rfl) (by kernel_rfl) (fun _ _ _ h => h) (Or.inl ⟨by rfl, ?q1_17y⟩) (by assumption) ?q1_17r
                                            case q1_17y => (intro w0 hSw; (try dsimp only at hSw); go_simp; try (with_reducible rfl))
                                            case q1_17r =>
                                              simp only [Act.put, List.getElem_toArray, List.getElem_cons_succ, List.getElem_cons_zero, List.setIfInBounds_toArray, List.set_cons_zero, List.set_cons_succ]
                                              refine wpAnyH_take (i := 17) (oi := _) (v := ?q1_18v) rfl (by kernel_rfl) (by kernel_rfl) (by kernel_rfl) (fun _ _ _ h => h) (Or.inl ⟨by rfl, ?q1_18y⟩) (by assumption) ?q1_18r
                                              case q1_18y => (intro w0 hSw; (try dsimp only at hSw); go_simp; try (with_reducible rfl))
                                              case q1_18r =>
                                                simp only [Act.put, List.getElem_toArray, List.getElem_cons_succ, List.getElem_cons_zero, List.setIfInBounds_toArray, List.set_cons_zero, List.set_cons_succ]
                                                refine wpAnyH_take (i := 19) (oi := _) (v := ?q1_19v) rfl (by kernel_rfl) (by kernel_rfl) (by kernel_rfl) (fun _ _ _ h => h) (Or.inl ⟨by rfl, ?q1_19y⟩) (by assumption) ?q1_19r
                                                case q1_19y => (intro w0 hSw; (try dsimp only at hSw); go_simp; try (with_reducible rfl))
                                                case q1_19r =>
                                                  simp only [Act.put, List.getElem_toArray, List.getElem_cons_succ, List.getElem_cons_zero, List.setIfInBounds_toArray, List.set_cons_zero, List.set_cons_succ]
                                                  refine wpAnyH_take (i := 20) (oi := _) (v := ?q1_20v) rfl (by kernel_rfl) (by kernel_rfl) (by kernel_rfl) (fun _ _ _ h => h) (Or.inl ⟨by rfl, ?q1_20y⟩) (by assumption) ?q1_20r
                                                  case q1_20y => (intro w0 hSw; (try dsimp only at hSw); go_simp; try (with_reducible rfl))
                                                  case q1_20r =>
                                                    simp only [Act.put, List.getElem_toArray, List.getElem_cons_succ, List.getElem_cons_zero, List.setIfInBounds_toArray, List.set_cons_zero, List.set_cons_succ]
                                                    refine wpAnyH_take (i := 21) (oi := _) (v := ?q1_21v) rfl (by kernel_rfl) (by kernel_rfl) (by kernel_rfl) (fun _ _ _ h => h) (Or.inl ⟨by rfl, ?q1_21y⟩) (by assumption) ?q1_21r
                                                    case q1_21y => (intro w0 hSw; (try dsimp only at hSw); go_simp; try (with_reducible rfl))
                                                    case q1_21r =>
                                                      simp only [Act.put, List.getElem_toArray, List.getElem_cons_succ, List.getElem_cons_zero, List.setIfInBounds_toArray, List.set_cons_zero, List.set_cons_succ]
                                                      refine wpAnyH_take (i := 22) (oi := _) (v := ?q1_22v) rfl (by kernel_rfl) (by kernel_rfl) (by kernel_rfl) (fun _ _ _ h => h) (Or.inl ⟨by rfl, ?q1_22y⟩) (by assumption) ?q1_22r
                                                      case q1_22y => (intro w0 hSw; (try dsimp only at hSw); go_simp; try (with_reducible rfl))
                                                      case q1_22r =>
                                                        simp only [Act.put, List.getElem_toArray, List.getElem_cons_succ, List.getElem_cons_zero, List.setIfInBounds_toArray, List.set_cons_zero, List.set_cons_succ]
                                                        refine wpAnyH_ready (rs := [18]) (by kernel_rfl) (by simp) ?q1_23g
                                                        case q1_23g =>
                                                          refine AllReadyH.cons (o := _) rfl (fun K hK => ?q1_23k) AllReadyH.nil
                                                          case q1_23k =>
                                                            go_simp
                                                            (first | ((with_reducible refine (hOps.out _ (Keeps.refl Nil w).drew).mono ?_); rintro e w9 ⟨rfl, h9⟩; rw [h9]; clear h9 w9) | ((with_reducible refine (hPow.out _ (Keeps.refl Nil w).drew).mono ?_); rintro e w9 ⟨rfl, h9⟩; rw [h9]; clear h9 w9) | ((with_reducible refine (hEv.out _ (Keeps.refl Nil w).drew).mono ?_); rintro e w5 ⟨rfl, k5⟩; have k5 := Lib.hid ((Keeps.refl Nil w).drew.trans k5)) | ((with_reducible refine (hSh.out _ k5.out).mono ?_); rintro e w6 ⟨rfl, k6⟩; have k6 := Lib.hid (k5.out.trans k6)))
                                                            refine hK.out _ _ ?q1_23s (fun hHeld => ?q1_23t)
                                                            case q1_23s => (try dsimp only); first | exact hS.out _ (Keeps.refl Nil w).drew | exact hS.out _ k5.out | exact hS.out _ k6.out
                                                            case q1_23t =>
                                                              clear hK K
                                                              try simp only [Act.put, List.getElem_toArray, List.getElem_cons_succ, List.getElem_cons_zero, List.setIfInBounds_toArray, List.set_cons_zero, List.set_cons_succ]
                                                              refine wpAnyH_take (i := 23) (oi := _) (v := ?q1_24v) rfl (by kernel_rfl) (by kernel_rfl) (by kernel_rfl) (fun _ _ _ h => h) (Or.inl ⟨by rfl, ?q1_24y⟩) (by assumption) ?q1_24r
                                                              case q1_24y => (intro w0 hSw; (try dsimp only at hSw); go_simp; try (with_reducible rfl))
                                                              case q1_24r =>
                                                                simp only [Act.put, List.getElem_toArray, List.getElem_cons_succ, List.getElem_cons_zero, List.setIfInBounds_toArray, List.set_cons_zero, List.set_cons_succ]
                                                                refine wpAnyH_take (i := 24) (oi := _) (v := ?q1_25v) rfl (by kernel_rfl) (by kernel_rfl) (by kernel_rfl) (fun _ _ _ h => h) (Or.inl ⟨by rfl, ?q1_25y⟩) (by assumption) ?q1_25r
                                                                case q1_25y => (intro w0 hSw; (try dsimp only at hSw); go_simp; try (with_reducible rfl))
                                                                case q1_25r =>
                                                                  simp only [Act.put, List.getElem_toArray, List.getElem_cons_succ, List.getElem_cons_zero, List.setIfInBounds_toArray, List.set_cons_zero, List.set_cons_succ]
                                                                  refine wpAnyH_take (i := 25) (oi := _) (v := ?q1_26v) rfl (by kernel_rfl) (by kernel_rfl) (by kernel_rfl) (fun _ _ _ h => h) (Or.inl ⟨by rfl, ?q1_26y⟩) (by assumption) ?q1_26r
                                                                  case q1_26y => (intro w0 hSw; (try dsimp only at hSw); go_simp; try (with_reducible rfl))
                                                                  case q1_26r =>
                                                                    simp only [Act.put, List.getElem_toArray, List.getElem_cons_succ, List.getElem_cons_zero, List.setIfInBounds_toArray, List.set_cons_zero, List.set_cons_succ]
                                                                    refine wpAnyH_take (i := 26) (oi := _) (v := ?q1_27v) rfl (by kernel_rfl) (by kernel_rfl) (by kernel_rfl) (fun _ _ _ h => h) (Or.inl ⟨by rfl, ?q1_27y⟩) (by assumption) ?q1_27r
                                                                    case q1_27y => (intro w0 hSw; (try dsimp only at hSw); go_simp; try (with_reducible rfl))
                                                                    case q1_27r =>
                                                                      simp only [Act.put, List.getElem_toArray, List.getElem_cons_succ, List.getElem_cons_zero, List.setIfInBounds_toArray, List.set_cons_zero, List.set_cons_succ]
                                                                      refine wpAnyH_take (i := 28) (oi := _) (v := ?q1_28v) rfl (by kernel_rfl) (by kernel_rfl) (by kernel_rfl) (fun _ _ _ h => h) (Or.inl ⟨by rfl, ?q1_28y⟩) (by assumption) ?q1_28r
                                                                      case q1_28y => (intro w0 hSw; (try dsimp only at hSw); go_simp; try (with_reducible rfl))
                                                                      case q1_28r =>
                                                                        simp only [Act.put, List.getElem_toArray, List.getElem_cons_succ, List.getElem_cons_zero, List.setIfInBounds_toArray, List.set_cons_zero, List.set_cons_succ]
                                                                        refine wpAnyH_take (i := 29) (oi := _) (v := ?q1_29v) rfl (by kernel_rfl) (by kernel_rfl) (by kernel_rfl) (fun _ _ _ h => h) (Or.inl ⟨by rfl, ?q1_29y⟩) (by assumption) ?q1_29r
                                                                        case q1_29y => (intro w0 hSw; (try dsimp only at hSw); go_simp; try (with_reducible rfl))
                                                                        case q1_29r =>
                                                                          simp only [Act.put, List.getElem_toArray, List.getElem_cons_succ, List.getElem_cons_zero, List.setIfInBounds_toArray, List.set_cons_zero, List.set_cons_succ]
                                                                          refine wpAnyH_take (i := 30) (oi := _) (v := ?q1_30v) rfl (by kernel_rfl) (by kernel_rfl) (by kernel_rfl) (fun _ _ _ h => h) (Or.inl ⟨by rfl, ?q1_30y⟩) (by assumption) ?q1_30r
                                                                          case q1_30y => (intro w0 hSw; (try dsimp only at hSw); go_simp; try (with_reducible rfl))
                                                                          case q1_30r =>
                                                                            simp only [Act.put, List.getElem_toArray, List.getElem_cons_succ, List.getElem_cons_zero, List.setIfInBounds_toArray, List.set_cons_zero, List.set_cons_succ]
                                                                            refine wpAnyH_take (i := 31) (oi := _) (v := ?q1_31v) rfl (by kernel_rfl) (by kernel_rfl) (by kernel_rfl) (fun _ _ _ h => h) (Or.inl ⟨by rfl, ?q1_31y⟩) (by assumption) ?q1_31r
                                                                            case q1_31y => (intro w0 hSw; (try dsimp only at hSw); go_simp; try (with_reducible rfl))
                                                                            case q1_31r =>
                                                                              simp only [Act.put, List.getElem_toArray, List.getElem_cons_succ, List.getElem_cons_zero, List.setIfInBounds_toArray, List.set_cons_zero, List.set_cons_succ]
                                                                              refine wpAnyH_ready (rs := [27]) (by kernel_rfl) (by simp) ?q1_32g
                                                                              case q1_32g =>
                                                                                refine AllReadyH.cons (o := _) rfl (fun K hK => ?q1_32k) AllReadyH.nil
                                                                                case q1_32k =>
                                                                                  go_simp
                                                                                  (first | ((with_reducible refine (hOps.out _ (Keeps.refl Nil w).drew).mono ?_); rintro e w9 ⟨rfl, h9⟩; rw [h9]; clear h9 w9) | ((with_reducible refine (hPow.out _ (Keeps.refl Nil w).drew).mono ?_); rintro e w9 ⟨rfl, h9⟩; rw [h9]; clear h9 w9) | ((with_reducible refine (hEv.out _ (Keeps.refl Nil w).drew).mono ?_); rintro e w5 ⟨rfl, k5⟩; have k5 := Lib.hid ((Keeps.refl Nil w).drew.trans k5)) | ((with_reducible refine (hSh.out _ k5.out).mono ?_); rintro e w6 ⟨rfl, k6⟩; have k6 := Lib.hid (k5.out.trans k6)))
                                                                                  refine hK.out _ _ ?q1_32s (fun hHeld => ?q1_32t)
                                                                                  case q1_32s => (try dsimp only); first | exact hS.out _ (Keeps.refl Nil w).drew | exact hS.out _ k5.out | exact hS.out _ k6.out
                                                                                  case q1_32t =>
                                                                                    clear hK K
                                                                                    try simp only [Act.put, List.getElem_toArray, List.getElem_cons_succ, List.getElem_cons_zero, List.setIfInBounds_toArray, List.set_cons_zero, List.set_cons_succ]
                                                                                    refine wpAnyH_take (i := 32) (oi := _) (v := ?q1_33v) rfl (by kernel_rfl) (by kernel_rfl) (by kernel_rfl) (fun _ _ _ h => h) (Or.inl ⟨by rfl, ?q1_33y⟩) (by assumption) ?q1_33r
                                                                                    case q1_33y => (intro w0 hSw; (try dsimp only at hSw); go_simp; try (with_reducible rfl))
                                                                                    case q1_33r =>
                                                                                      simp only [Act.put, List.getElem_toArray, List.getElem_cons_succ, List.getElem_cons_zero, List.setIfInBounds_toArray, List.set_cons_zero, List.set_cons_succ]
                                                                                      refine wpAnyH_take (i := 33) (oi := _) (v := ?q1_34v) rfl (by kernel_rfl) (by kernel_rfl) (by kernel_rfl) (fun _ _ _ h => h) (Or.inl ⟨by rfl, ?q1_34y⟩) (by assumption) ?q1_34r
                                                                                      case q1_34y => (intro w0 hSw; (try dsimp only at hSw); go_simp; try (with_reducible rfl))
                                                                                      case q1_34r =>
                                                                                        simp only [Act.put, List.getElem_toArray, List.getElem_cons_succ, List.getElem_cons_zero, List.setIfInBounds_toArray, List.set_cons_zero, List.set_cons_succ]
                                                                                        refine wpAnyH_done (by kernel_rfl) ?q1z _
                                                                                        case q1z =>
                                                                                          clear hOps hPow hEv hSh e1 e2
                                                                                          go_wp2_with fail
                                                                                          go_loopw [5] (fun i wr => ∃ d : Int, -1 ≤ d ∧ d ≤ (D : Int) + 1 ∧ i = .int .i64 d ∧ Hid (Keeps Nil w wr)) (fun i _ => ((D : Int) + 1 - intOf i).toNat)
                                                                                          case atStart => exact ⟨-1, by omega, by omega, rfl, k6⟩
                                                                                          case round =>
                                                                                            obtain ⟨d, hd1, hd2, rfl, hkr⟩ := hrel
                                                                                            obtain ⟨_, _, _, _, _, _, _, _, s0, _, _, _⟩ := hS.out _ hkr.out
                                                                                            by_cases hlt : d ≤ (D : Int)
                                                                                            · go_wp2_with fail
                                                                                              clear s0
                                                                                              go_loopw [6] (fun i wr => ∃ n : Int, -1 ≤ n ∧ n ≤ (N : Int) + 1 ∧ i = .int .i64 n ∧ Hid (Keeps Nil w wr)) (fun i _ => ((N : Int) + 1 - intOf i).toNat)
                                                                                              case atStart => exact ⟨-1, by omega, by omega, rfl, hkr⟩
                                                                                              case round =>
                                                                                                obtain ⟨n, hn1, hn2, rfl, hkx⟩ := hrel
                                                                                                obtain ⟨_, _, _, _, _, _, _, _, _, s1, _, _⟩ := hS.out _ hkx.out
                                                                                                by_cases hln : n ≤ (N : Int)
                                                                                                · obtain ⟨x, hx⟩ : ∃ x, A.nextI d n = x := ⟨_, rfl⟩
                                                                                                  obtain ⟨y, hy⟩ : ∃ y, A.erasesI d n = y := ⟨_, rfl⟩
                                                                                                  obtain ⟨z, hz⟩ : ∃ z, A.markedI d n = z := ⟨_, rfl⟩
                                                                                                  have h1 := Lib.hid (fun W hk => hNa.out W hk d n)
                                                                                                  have h2 := Lib.hid (fun W hk => hNr.out W hk d n)
                                                                                                  have h3 := Lib.hid (fun W hk => hEa.out W hk d n)
                                                                                                  have h4 := Lib.hid (fun W hk => hEr.out W hk d n)
                                                                                                  have h5 := Lib.hid (fun W hk => hMa.out W hk d n)
                                                                                                  have h6 := Lib.hid (fun W hk => hMr.out W hk d n)
                                                                                                  rw [hx] at h1 h2
                                                                                                  rw [hy] at h3 h4
                                                                                                  rw [hz] at h5 h6
                                                                                                  clear hx hy hz
                                                                                                  have e1 : (x != x) = false := by simp
                                                                                                  have e2 : (y != y) = false := by simp
                                                                                                  have e3 : (z != z) = false := by simp
                                                                                                  go_wp2_with fail
                                                                                                  refine (h1.out _ hkx.out).mono ?_
                                                                                                  rintro e w1 ⟨rfl, h9⟩
                                                                                                  rw [h9]; clear h9 w1
                                                                                                  go_wp2_with fail
                                                                                                  refine (h2.out _ hkx.out).mono ?_
                                                                                                  rintro e w1 ⟨rfl, k1⟩
                                                                                                  have k1 := Lib.hid (hkx.out.trans k1)
                                                                                                  go_wp2_with fail
                                                                                                  refine (h3.out _ k1.out).mono ?_
                                                                                                  rintro e w2 ⟨rfl, h9⟩
                                                                                                  rw [h9]; clear h9 w2
                                                                                                  go_wp2_with fail
                                                                                                  refine (h4.out _ k1.out).mono ?_
                                                                                                  rintro e w2 ⟨rfl, k2⟩
                                                                                                  have k2 := Lib.hid (k1.out.trans k2)
                                                                                                  go_wp2_with fail
                                                                                                  refine (h5.out _ k2.out).mono ?_
                                                                                                  rintro e w3 ⟨rfl, k3⟩
                                                                                                  have k3 := Lib.hid (k2.out.trans k3)
                                                                                                  go_wp2_with fail
                                                                                                  refine (h6.out _ k3.out).mono ?_
                                                                                                  rintro e w4 ⟨rfl, k4⟩
                                                                                                  have k4 := Lib.hid (k3.out.trans k4)
                                                                                                  clear e1 e2 e3 h1 h2 h3 h4 h5 h6
                                                                                                  go_wp2_with fail
                                                                                                  go_roundw
                                                                                                  case rel => exact ⟨n + 1, by omega, by omega, by go_num, k4⟩
                                                                                                  case measure => simp [intOf]; omega
                                                                                                · go_wp2_with fail
                                                                                                  go_roundw
                                                                                                  case rel => exact ⟨d + 1, by omega, by omega, by go_num, hkx⟩
                                                                                                  case measure => simp [intOf]; omega
                                                                                            · go_wp2_with fail
                                                                                              go_ret
                                                                                              exact ⟨rfl, hkr.out⟩
end
end Go.Proofs.Ytglpacdenfoicaa
