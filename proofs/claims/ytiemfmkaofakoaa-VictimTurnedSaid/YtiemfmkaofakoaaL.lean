/- VictimTurned: the walk -/
import Derived.Test.YtiemfmkaofakoaaK
import Derived.IntWalk
namespace Go.Proofs.Ytiemfmkaofakoaa
open Go.RowKit

def polP (x : Int) : Int := if x.tmod 2 = 0 then 2 else 1

set_option maxHeartbeats 8000000 in
set_option maxRecDepth 100000 in
theorem turned_any (a : Option Addr) (n cap : Nat) (l : Nat → Sup) (turn pol : Int) (w : World) (hl : SupsAt w a n l) (hm : n ≤ maxLen) (ht0 : -9223372036854775808 ≤ turn) (ht1 : turn ≤ 9223372036854775807) (hp0 : -9223372036854775808 ≤ pol) (hp1 : pol ≤ 9223372036854775807) :
    Calls Try.prog 7 #[.slice a n cap, .int .i64 turn, .int .i64 pol] w fun e w' => e = .returned (.bool true) ∧ Keeps Nil w w' := by
  obtain ⟨i30, hi, hz0, hz1, hz2⟩ := info_parts Try.info30
  unfold maxLen at hm
  have hl' := Lib.hid hl
  clear hl
  by_cases hn : n = 0 ∨ 100 < n
  · have hn' : (((n : Int) == 0) = true ∧ (n == 0) = true) ∨ (((n : Int) == 0) = false ∧ (n == 0) = false ∧ 100 < n) := by
      by_cases h : n = 0
      · exact .inl ⟨by simp [h], by simp [h]⟩
      · exact .inr ⟨by simp [h], by simp [h], by omega⟩
    clear hn
    rcases hn' with ⟨h1, e0⟩ | ⟨h1, e0, h2⟩
    all_goals
      go_enter Try.func7, Try.ntmps7
      go_wp2_with fail
      refine (awake_any w).mono ?_
      rintro e w1 ⟨rfl, k1⟩
      go_wp2_with fail
      go_ret
      exact ⟨rfl, k1⟩
  · have h1 : ((n : Int) == 0) = false := by simp; omega
    have e0 : (n == 0) = false := by simp; omega
    have hnpos : 0 < n := by omega
    have hn100 : n ≤ 100 := by omega
    clear hn
    go_enter Try.func7, Try.ntmps7
    go_wp2_with fail
    refine (awake_any w).mono ?_
    rintro e w1 ⟨rfl, k1⟩
    have k1' := Lib.hid k1
    clear k1
    go_wp2_with fail
    go_loopw [9, 10, 11] (fun v i x wr => ∃ k : Nat, k ≤ n ∧ i = .int .i64 k ∧ Made w wr v (rowsT (lN l) k)) (fun _ i _ _ => n - (intOf i).toNat)
    case atStart => exact ⟨0, Nat.zero_le _, rfl, none, 0, rfl, RowAt.nil _ _ _, k1'.out, fun g h => by cases h⟩
    case round =>
      obtain ⟨k, hk, rfl, a', cap', rfl, hr, hkeep, hge⟩ := hrel
      have hlen : (rowsT (lN l) k).length = k := rowsT_len _ _
      by_cases hlt : k < n
      · obtain ⟨b, off, rfl, c0, c1, c2, c3, c4, c5, c6⟩ := (hl'.out.keeps hkeep) k hlt
        have hr' := Lib.hid hr
        have hkeep' := Lib.hid hkeep
        have hge' := Lib.hid hge
        have hbl := lt_of_cell c0
        have hw32 : IntKind.u32.wrap ((k : Int) + 1) = (k : Int) + 1 := IntWalk.u32_in _ (by omega)
        have hlen' := Lib.hid hlen
        have hmx := Lib.hid (show (rowsT (lN l) k).length + 1 ≤ maxLen by unfold maxLen; omega)
        have hmb := Lib.hid (show ((rowsT (lN l) k).length + 1) * 56 ≤ 140737488355328 by omega)
        have hsn := Lib.hid (rowsT_snoc (lN l) k)
        clear hr hkeep hge hlen
        go_wp2_with (at_builtin; refine wpList_app _ rfl _ _ 22 rfl 30 i30 (.agg #[.int .u32 0, .int .i64 0, .int .i64 0, .int .i64 0, .int .i64 0, .int .i64 0, .bool false]) 7 56 Try.underlying22 hi hz0 hz1 hz2 rfl (by decide) a' ((rowsT (lN l) k).length) cap' (cellsOf (rowsT (lN l) k)) rfl _ 1 1 (supC (lN l k)) rfl ?_ (hr'.out.keeps (((Keeps.refl Nil wr).alloc _).alloc _) (fun _ _ h => h)) (src_sup (sup_new2 wr _ (lN l k) 30)) (fun h => by cases h) (supC_one _) (by exact hmx.out) (by exact hmb.out); intro a2 cap2 w2 hr2 hk2 hb2)
        have hfin := made_step (s := lN l k) hkeep'.out hge'.out (((Keeps.refl Nil wr).alloc _).alloc _) hr2 hk2 hb2
        rw [← hsn.out] at hfin
        have hfin' := Lib.hid hfin
        clear hr2 hk2 hb2 hfin
        go_roundw
        case rel => exact ⟨k + 1, by omega, by go_num, hfin'.out⟩
        case measure => simp [intOf]; omega
      · obtain rfl : k = n := by omega
        rw [hlen]
        have hl9 := Lib.hid (made_at hr)
        have hkeep' := Lib.hid hkeep
        clear hr hkeep hge hlen
        have hcase : (turn < 0 ∧ ∃ t : Nat, t < k ∧ (-(turn + 1)).tmod (k : Int) = t) ∨ (¬ turn < 0 ∧ ∃ t : Nat, t < k ∧ turn % (k : Int) = t) := by
          by_cases h : turn < 0
          · left
            obtain ⟨p, hp⟩ := Int.eq_ofNat_of_zero_le (Int.emod_nonneg (-(turn + 1)) (show (k : Int) ≠ 0 by omega))
            exact ⟨h, p, by have := Int.emod_lt_of_pos (-(turn + 1)) (show 0 < (k : Int) by omega); omega, by rw [Int.tmod_eq_emod_of_nonneg (by omega)]; exact hp⟩
          · right
            obtain ⟨p, hp⟩ := Int.eq_ofNat_of_zero_le (Int.emod_nonneg turn (show (k : Int) ≠ 0 by omega))
            exact ⟨h, p, by have := Int.emod_lt_of_pos turn (show 0 < (k : Int) by omega); omega, hp⟩
        rcases hcase with ⟨hneg, t, htn, hmod⟩ | ⟨hneg, t, htn, hmod⟩
        all_goals
          obtain ⟨wo, hwo⟩ : ∃ wo : World, wo = wr := ⟨_, rfl⟩
          subst hwo
          go_wp2_with fail
          have hmod' := Lib.hid hmod
          clear hmod hneg
          go_loopw [12, 13] (fun v i wx => ∃ q : Nat, q ≤ k ∧ i = .int .i64 q ∧ Made wo wx v (rowsT (kN l k t) q)) (fun _ i _ => k - (intOf i).toNat)
          case atStart => exact ⟨0, Nat.zero_le _, rfl, none, 0, rfl, RowAt.nil _ _ _, Keeps.refl _ _, fun g h => by cases h⟩
          case round =>
            obtain ⟨q, hq, rfl, a2, cap2, rfl, hr, hkeep, hge⟩ := hrel
            have hlen2 : (rowsT (kN l k t) q).length = q := rowsT_len _ _
            by_cases hlt2 : q < k
            · obtain ⟨r, hr0⟩ : ∃ r, tix k t q = r := ⟨_, rfl⟩
              have hrk : r < k := by rw [← hr0]; exact tix_lt hnpos
              have hx : ((k : Int) - 1 - (q : Int) + (t : Int)) % (k : Int) = (r : Int) := by
                have e1 : ((k - 1 - q + t : Nat) : Int) = (k : Int) - 1 - q + t := by omega
                rw [← e1, ← hr0]; unfold tix; norm_cast
              obtain ⟨b2, off2, hbe, c0, c1, c2, c3, c4, c5, c6⟩ := (hl9.out.keeps hkeep) r hrk
              subst hbe
              have hsn := Lib.hid (show rowsT (kN l k t) (q + 1) = rowsT (kN l k t) q ++ [lN l r] by rw [rowsT_snoc]; unfold kN; rw [hr0])
              have hr' := Lib.hid hr
              have hkeep2 := Lib.hid hkeep
              have hge' := Lib.hid hge
              have hbl := lt_of_cell c0
              have hmx := Lib.hid (show (rowsT (kN l k t) q).length + 1 ≤ maxLen by unfold maxLen; omega)
              have hmb := Lib.hid (show ((rowsT (kN l k t) q).length + 1) * 56 ≤ 140737488355328 by omega)
              clear hr hkeep hge hlen2 hr0
              go_wp2_with (at_builtin; refine wpList_app _ rfl _ _ 22 rfl 30 i30 (.agg #[.int .u32 0, .int .i64 0, .int .i64 0, .int .i64 0, .int .i64 0, .int .i64 0, .bool false]) 7 56 Try.underlying22 hi hz0 hz1 hz2 rfl (by decide) a2 ((rowsT (kN l k t) q).length) cap2 (cellsOf (rowsT (kN l k t) q)) rfl _ 1 1 (supC (lN l r)) rfl ?_ (hr'.out.keeps ((Keeps.refl Nil _).alloc _) (fun _ _ h => h)) (src_sup (sup_new _ (lN l r) 30)) (fun h => by cases h) (supC_one _) (by exact hmx.out) (by exact hmb.out); intro a3 cap3 w3 hr3 hk3 hb3)
              have hfin := made_step (s := lN l r) hkeep2.out hge'.out ((Keeps.refl Nil _).alloc _) hr3 hk3 hb3
              rw [← hsn.out] at hfin
              have hfin' := Lib.hid hfin
              clear hr3 hk3 hb3 hfin hx
              go_roundw
              case rel => exact ⟨q + 1, by omega, by go_num, hfin'.out⟩
              case measure => simp [intOf]; omega
            · obtain rfl : q = k := by omega
              rw [hlen2]
              have hl12 := Lib.hid (made_at hr)
              have hl9b := Lib.hid (hl9.out.keeps hkeep)
              have hKx := Lib.hid (hkeep'.out.trans hkeep)
              have hmq := Lib.hid (show q ≤ maxLen by unfold maxLen; omega)
              clear hr hkeep hge hlen2
              have hpol : ((pol.tmod 2 == 0) = true ∧ ∃ p : Int, p = 2) ∨ ((pol.tmod 2 == 0) = false ∧ ∃ p : Int, p = 1) := by
                cases h : (pol.tmod 2 == 0)
                · exact .inr ⟨rfl, 1, rfl⟩
                · exact .inl ⟨rfl, 2, rfl⟩
              rcases hpol with ⟨hpo, p, hpe⟩ | ⟨hpo, p, hpe⟩
              all_goals
                have hAg := turn_choose l hnpos htn p (by omega)
                have hCo := turn_cold l hnpos htn
                subst hpe
                rcases hAg with ⟨ga, gb⟩ | ⟨ia, ib, ga, gb, hia, hib, hidab⟩
                · rcases hCo with ⟨gc, gd⟩ | ⟨ic, id, gc, gd, hic, hid, hidcd⟩
                  · go_wp2_with fail
                    refine (choose_val _ q _ (lN l) _ _ _ (by exact hl9b.out) (by exact hmq.out) ga).mono ?_
                    rintro e w5 ⟨rfl, k5⟩
                    have k5' := Lib.hid k5
                    clear k5 ga
                    go_wp2_with fail
                    refine (choose_val _ q _ (kN l q t) _ _ _ (by exact hl12.out.keeps k5'.out) (by exact hmq.out) gb).mono ?_
                    rintro e w6 ⟨rfl, k6⟩
                    have k6' := Lib.hid (k5'.out.trans k6)
                    clear k6 gb
                    go_wp2_with fail
                    refine (cold_val _ q _ (lN l) _ _ _ _ (by exact hl9b.out.keeps k6'.out) (by exact hmq.out) gc).mono ?_
                    rintro e w7 ⟨rfl, k7⟩
                    have k7' := Lib.hid (k6'.out.trans k7)
                    clear k7 gc
                    go_wp2_with fail
                    refine (cold_val _ q _ (kN l q t) _ _ _ _ (by exact hl12.out.keeps k7'.out) (by exact hmq.out) gd).mono ?_
                    rintro e w8 ⟨rfl, k8⟩
                    have k8' := Lib.hid (k7'.out.trans k8)
                    clear k8 gd
                    have hKend := Lib.hid (hKx.out.trans k8'.out)
                    have hl9c := Lib.hid (hl9b.out.keeps k8'.out)
                    have hl12c := Lib.hid (hl12.out.keeps k8'.out)
                    go_wp2_with fail
                    go_quiet (fail)
                    go_wp2_with fail
                    go_ret
                    exact ⟨rfl, hKend.out.drewN _⟩
                  · go_wp2_with fail
                    refine (choose_val _ q _ (lN l) _ _ _ (by exact hl9b.out) (by exact hmq.out) ga).mono ?_
                    rintro e w5 ⟨rfl, k5⟩
                    have k5' := Lib.hid k5
                    clear k5 ga
                    go_wp2_with fail
                    refine (choose_val _ q _ (kN l q t) _ _ _ (by exact hl12.out.keeps k5'.out) (by exact hmq.out) gb).mono ?_
                    rintro e w6 ⟨rfl, k6⟩
                    have k6' := Lib.hid (k5'.out.trans k6)
                    clear k6 gb
                    go_wp2_with fail
                    refine (cold_val _ q _ (lN l) _ _ _ _ (by exact hl9b.out.keeps k6'.out) (by exact hmq.out) gc).mono ?_
                    rintro e w7 ⟨rfl, k7⟩
                    have k7' := Lib.hid (k6'.out.trans k7)
                    clear k7 gc
                    go_wp2_with fail
                    refine (cold_val _ q _ (kN l q t) _ _ _ _ (by exact hl12.out.keeps k7'.out) (by exact hmq.out) gd).mono ?_
                    rintro e w8 ⟨rfl, k8⟩
                    have k8' := Lib.hid (k7'.out.trans k8)
                    clear k8 gd
                    have hKend := Lib.hid (hKx.out.trans k8'.out)
                    have hl9c := Lib.hid (hl9b.out.keeps k8'.out)
                    have hl12c := Lib.hid (hl12.out.keeps k8'.out)
                    obtain ⟨bC, oC, hbC, e0', e1, e2, e3, e4, e5, e6⟩ := hl9c.out ic hic
                    obtain ⟨bD, oD, hbD, f0, f1, f2, f3, f4, f5, f6⟩ := hl12c.out id hid
                    rw [hidcd] at e0'
                    subst hbC
                    subst hbD
                    have hvv2 : ((kN l q t id).id == (kN l q t id).id) = true := by simp
                    clear e1 e2 e3 e4 e5 e6 f1 f2 f3 f4 f5 f6 hidcd
                    have dc0 : decide ((ic : Int) < 0) = false := decide_eq_false (by omega)
                    have dd0 : decide ((id : Int) < 0) = false := decide_eq_false (by omega)
                    go_wp2_with fail
                    go_quiet (fail)
                    go_wp2_with fail
                    go_ret
                    exact ⟨rfl, hKend.out.drewN _⟩
                · rcases hCo with ⟨gc, gd⟩ | ⟨ic, id, gc, gd, hic, hid, hidcd⟩
                  · go_wp2_with fail
                    refine (choose_val _ q _ (lN l) _ _ _ (by exact hl9b.out) (by exact hmq.out) ga).mono ?_
                    rintro e w5 ⟨rfl, k5⟩
                    have k5' := Lib.hid k5
                    clear k5 ga
                    go_wp2_with fail
                    refine (choose_val _ q _ (kN l q t) _ _ _ (by exact hl12.out.keeps k5'.out) (by exact hmq.out) gb).mono ?_
                    rintro e w6 ⟨rfl, k6⟩
                    have k6' := Lib.hid (k5'.out.trans k6)
                    clear k6 gb
                    go_wp2_with fail
                    refine (cold_val _ q _ (lN l) _ _ _ _ (by exact hl9b.out.keeps k6'.out) (by exact hmq.out) gc).mono ?_
                    rintro e w7 ⟨rfl, k7⟩
                    have k7' := Lib.hid (k6'.out.trans k7)
                    clear k7 gc
                    go_wp2_with fail
                    refine (cold_val _ q _ (kN l q t) _ _ _ _ (by exact hl12.out.keeps k7'.out) (by exact hmq.out) gd).mono ?_
                    rintro e w8 ⟨rfl, k8⟩
                    have k8' := Lib.hid (k7'.out.trans k8)
                    clear k8 gd
                    have hKend := Lib.hid (hKx.out.trans k8'.out)
                    have hl9c := Lib.hid (hl9b.out.keeps k8'.out)
                    have hl12c := Lib.hid (hl12.out.keeps k8'.out)
                    obtain ⟨bA, oA, hbA, c0, c1, c2, c3, c4, c5, c6⟩ := hl9c.out ia hia
                    obtain ⟨bB, oB, hbB, d0, d1, d2, d3, d4, d5, d6⟩ := hl12c.out ib hib
                    rw [hidab] at c0
                    subst hbA
                    subst hbB
                    have hvv : ((kN l q t ib).id == (kN l q t ib).id) = true := by simp
                    clear c1 c2 c3 c4 c5 c6 d1 d2 d3 d4 d5 d6 hidab
                    have da0 : decide ((ia : Int) < 0) = false := decide_eq_false (by omega)
                    have db0 : decide ((ib : Int) < 0) = false := decide_eq_false (by omega)
                    go_wp2_with fail
                    go_quiet (fail)
                    go_wp2_with fail
                    go_ret
                    exact ⟨rfl, hKend.out.drewN _⟩
                  · go_wp2_with fail
                    refine (choose_val _ q _ (lN l) _ _ _ (by exact hl9b.out) (by exact hmq.out) ga).mono ?_
                    rintro e w5 ⟨rfl, k5⟩
                    have k5' := Lib.hid k5
                    clear k5 ga
                    go_wp2_with fail
                    refine (choose_val _ q _ (kN l q t) _ _ _ (by exact hl12.out.keeps k5'.out) (by exact hmq.out) gb).mono ?_
                    rintro e w6 ⟨rfl, k6⟩
                    have k6' := Lib.hid (k5'.out.trans k6)
                    clear k6 gb
                    go_wp2_with fail
                    refine (cold_val _ q _ (lN l) _ _ _ _ (by exact hl9b.out.keeps k6'.out) (by exact hmq.out) gc).mono ?_
                    rintro e w7 ⟨rfl, k7⟩
                    have k7' := Lib.hid (k6'.out.trans k7)
                    clear k7 gc
                    go_wp2_with fail
                    refine (cold_val _ q _ (kN l q t) _ _ _ _ (by exact hl12.out.keeps k7'.out) (by exact hmq.out) gd).mono ?_
                    rintro e w8 ⟨rfl, k8⟩
                    have k8' := Lib.hid (k7'.out.trans k8)
                    clear k8 gd
                    have hKend := Lib.hid (hKx.out.trans k8'.out)
                    have hl9c := Lib.hid (hl9b.out.keeps k8'.out)
                    have hl12c := Lib.hid (hl12.out.keeps k8'.out)
                    obtain ⟨bA, oA, hbA, c0, c1, c2, c3, c4, c5, c6⟩ := hl9c.out ia hia
                    obtain ⟨bB, oB, hbB, d0, d1, d2, d3, d4, d5, d6⟩ := hl12c.out ib hib
                    rw [hidab] at c0
                    subst hbA
                    subst hbB
                    have hvv : ((kN l q t ib).id == (kN l q t ib).id) = true := by simp
                    clear c1 c2 c3 c4 c5 c6 d1 d2 d3 d4 d5 d6 hidab
                    have da0 : decide ((ia : Int) < 0) = false := decide_eq_false (by omega)
                    have db0 : decide ((ib : Int) < 0) = false := decide_eq_false (by omega)
                    obtain ⟨bC, oC, hbC, e0', e1, e2, e3, e4, e5, e6⟩ := hl9c.out ic hic
                    obtain ⟨bD, oD, hbD, f0, f1, f2, f3, f4, f5, f6⟩ := hl12c.out id hid
                    rw [hidcd] at e0'
                    cases hbC
                    cases hbD
                    have hvv2 : ((kN l q t id).id == (kN l q t id).id) = true := by simp
                    clear e1 e2 e3 e4 e5 e6 f1 f2 f3 f4 f5 f6 hidcd
                    have dc0 : decide ((ic : Int) < 0) = false := decide_eq_false (by omega)
                    have dd0 : decide ((id : Int) < 0) = false := decide_eq_false (by omega)
                    go_wp2_with fail
                    go_quiet (fail)
                    go_wp2_with fail
                    go_ret
                    exact ⟨rfl, hKend.out.drewN _⟩
end Go.Proofs.Ytiemfmkaofakoaa
