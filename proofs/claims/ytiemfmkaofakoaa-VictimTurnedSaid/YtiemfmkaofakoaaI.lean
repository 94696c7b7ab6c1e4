/- VictimEmpty: the walk -/
import Derived.Test.YtiemfmkaofakoaaH
namespace Go.Proofs.Ytiemfmkaofakoaa
open Go.RowKit

/-- the rows that the call has made -/
def Made (w wr : World) (v : Value) (ls : List Sup) : Prop := ∃ a' cap', v = .slice a' ls.length cap' ∧ SupRow wr a' cap' ls ∧ Keeps Nil w wr ∧ ∀ g, blk a' = some g → w.heap.size ≤ g

theorem made_step {w wr W w2 : World} {a' a2 : Option Addr} {cap2 : Nat} {ls : List Sup} {s : Sup} (hk : Keeps Nil w wr) (hge : ∀ g, blk a' = some g → w.heap.size ≤ g) (hW : Keeps Nil wr W)
    (hr : RowAt w2 30 7 a2 (ls.length + 1) cap2 (cellsOf ls ++ supC s)) (hk2 : Keeps (fun j => blk a' = some j) W w2) (hb : blk a2 = blk a' ∨ blk a2 = some W.heap.size ∧ W.heap.size < w2.heap.size) :
    Made w w2 (.slice a2 (ls.length + 1) cap2) (ls ++ [s]) := by
  refine ⟨a2, cap2, by simp, ?_, (hk.trans hW).trans' hk2 (fun j hj => .inr (hge j hj)), fun g hg => ?_⟩
  · unfold SupRow
    have e : cellsOf (ls ++ [s]) = cellsOf ls ++ supC s := by unfold cellsOf; simp
    rw [e, List.length_append]
    exact hr
  · rcases hb with hb | ⟨hb, _⟩
    · rw [hb] at hg; exact hge g hg
    · rw [hb] at hg
      have h1 := hk.size
      have h2 := hW.size
      cases hg
      omega

theorem sup_new2 (w : World) (o : Obj) (s : Sup) (t : TypeId) : SupAt ((w.alloc o).alloc (.cells #[.int .u32 s.id, .int .i64 s.live, .int .i64 s.slots, .int .i64 s.age, .int .i64 s.erases, .int .i64 s.reads, .bool s.sick] t)) (w.heap.size + 1) 0 s := by
  have h := sup_new (w.alloc o) s t
  rw [show (w.alloc o).heap.size = w.heap.size + 1 by simp] at h
  exact h
theorem supC_one (s : Sup) : ∀ u ∈ supC s, u.oneCell' = true := by
  intro u hu
  simp only [supC, List.mem_cons, List.not_mem_nil, or_false] at hu
  rcases hu with rfl | rfl | rfl | rfl | rfl | rfl | rfl <;> rfl
theorem Made.keeps {w w2 : World} {v : Value} {ls : List Sup} (h : Made w w2 v ls) : Keeps Nil w w2 := by
  obtain ⟨_, _, _, _, h, _⟩ := h
  exact h

theorem cells_snoc (ls : List Sup) (s : Sup) : cellsOf (ls ++ [s]) = cellsOf ls ++ supC s := by unfold cellsOf; simp
theorem sups_of_snoc {w2 : World} {a2 : Option Addr} {cap2 : Nat} {ls al : List Sup} {s : Sup} (hall : al = ls ++ [s]) (hr : RowAt w2 30 7 a2 (ls.length + 1) cap2 (cellsOf ls ++ supC s)) : SupsAt w2 a2 (ls.length + 1) (fun j => al.getD j default) := by
  have h : SupRow w2 a2 cap2 al := by
    unfold SupRow
    rw [hall, List.length_append, cells_snoc]
    exact hr
  have h2 := h.sups
  rw [hall, List.length_append] at h2
  rw [hall]
  exact h2

set_option maxHeartbeats 4000000 in
theorem empty_any (a : Option Addr) (n cap : Nat) (l : Nat → Sup) (at0 : Int) (w : World) (hl : SupsAt w a n l) (hm : n ≤ maxLen) (hb0 : -9223372036854775808 ≤ at0) (hb1 : at0 ≤ 9223372036854775807) (hby : n * 56 ≤ 140737488351232) :
    Calls Try.prog 6 #[.slice a n cap, .int .i64 at0] w fun e w' => e = .returned (.bool true) ∧ Keeps Nil w w' := by
  obtain ⟨i30, hi, hz0, hz1, hz2⟩ := info_parts Try.info30
  have hm' := Lib.hid hm
  unfold maxLen at hm
  have hl' := Lib.hid hl
  clear hl
  have hcase : (at0 < 0 ∧ ∃ p : Nat, p ≤ n ∧ (-(at0 + 1)).tmod ((n : Int) + 1) = p) ∨ (¬ at0 < 0 ∧ ∃ p : Nat, p ≤ n ∧ at0 % ((n : Int) + 1) = p) := by
    by_cases h : at0 < 0
    · left
      obtain ⟨p, hp⟩ := Int.eq_ofNat_of_zero_le (Int.emod_nonneg (-(at0 + 1)) (show ((n : Int) + 1) ≠ 0 by omega))
      exact ⟨h, p, by have := Int.emod_lt_of_pos (-(at0 + 1)) (show 0 < ((n : Int) + 1) by omega); omega, by rw [Int.tmod_eq_emod_of_nonneg (by omega)]; exact hp⟩
    · right
      obtain ⟨p, hp⟩ := Int.eq_ofNat_of_zero_le (Int.emod_nonneg at0 (show ((n : Int) + 1) ≠ 0 by omega))
      exact ⟨h, p, by have := Int.emod_lt_of_pos at0 (show 0 < ((n : Int) + 1) by omega); omega, hp⟩
  rcases hcase with ⟨hneg, p, hpn, hmod⟩ | ⟨hneg, p, hpn, hmod⟩
  all_goals
    go_enter Try.func6, Try.ntmps6
    go_wp2_with fail
    refine (awake_any w).mono ?_
    rintro e w1 ⟨rfl, k1⟩
    have k1' := Lib.hid k1
    clear k1
    go_wp2_with fail
    have hmod' := Lib.hid hmod
    clear hneg
    go_loopw [6, 7] (fun v i wr => ∃ k : Nat, k ≤ n ∧ i = .int .i64 k ∧ Made w wr v (builtE l p k)) (fun _ i _ => n - (intOf i).toNat)
    case atStart => exact ⟨0, Nat.zero_le _, rfl, none, 0, rfl, RowAt.nil _ _ _, k1'.out, fun g h => by cases h⟩
    case round =>
      obtain ⟨k, hk, rfl, a', cap', rfl, hr, hkeep, hge⟩ := hrel
      have hlenE := builtE_len l p k
      have hr' := Lib.hid hr
      have hkeep' := Lib.hid hkeep
      have hge' := Lib.hid hge
      clear hr hkeep hge
      by_cases hlt : k < n
      · obtain ⟨b, off, rfl, c0, c1, c2, c3, c4, c5, c6⟩ := (hl'.out.keeps hkeep'.out) k hlt
        have hbl := lt_of_cell c0
        by_cases hkp : k = p
        · have e1 : (k == p) = true := by simpa using hkp
          have hbE : builtE l p (k + 1) = (builtE l p k ++ [empt]) ++ [some1 (l k)] := by rw [builtE, if_pos hkp]
          have hbE' := Lib.hid hbE
          have hlen2 : (builtE l p k).length = k := by rw [hlenE, if_neg (by omega)]; rfl
          have hlen2' : (builtE l p k).length ≤ k := by omega
          clear hbE hkp hlenE hlen2
          by_cases hlv : (l k).live ≤ 0
          · have hs1 := Lib.hid (show some1 (l k) = { l k with live := 1 } from if_pos hlv)
            go_wp2_with (first | (at_builtin; refine wpList_app _ rfl _ _ 22 rfl 30 i30 (.agg #[.int .u32 0, .int .i64 0, .int .i64 0, .int .i64 0, .int .i64 0, .int .i64 0, .bool false]) 7 56 Try.underlying22 hi hz0 hz1 hz2 rfl (by decide) a' ((builtE l p k).length) cap' (cellsOf (builtE l p k)) rfl _ 1 1 (supC empt) rfl ?_ (hr'.out.keeps ((Keeps.refl Nil wr).alloc _) (fun _ _ h => h)) (src_sup (sup_new wr empt 30)) (fun h => by cases h) (supC_one _) (by simp only [maxLen]; omega) (by omega); intro a2 cap2 w2 hr2 hk2 hb2; have hM := made_step (s := empt) hkeep'.out hge'.out ((Keeps.refl Nil wr).alloc _) hr2 hk2 hb2; have hM' := Lib.hid hM; obtain ⟨b2, off2, hbe, e0, e1', e2', e3, e4, e5, e6⟩ := (hl'.out.keeps hM.keeps) k hlt; cases hbe; have hbl2 := lt_of_cell e0; have hr2' := Lib.hid hr2; clear hr2 hk2 hb2 hM) | (at_builtin; refine wpList_app _ rfl _ _ 22 rfl 30 i30 (.agg #[.int .u32 0, .int .i64 0, .int .i64 0, .int .i64 0, .int .i64 0, .int .i64 0, .bool false]) 7 56 Try.underlying22 hi hz0 hz1 hz2 rfl (by decide) a2 ((builtE l p k).length + 1) cap2 (cellsOf (builtE l p k) ++ supC empt) rfl _ 1 1 (supC { l k with live := 1 }) rfl ?_ (hr2'.out.keeps (((Keeps.refl Nil w2).alloc _).alloc _) (fun _ _ h => h)) (src_sup (sup_new2 w2 _ { l k with live := 1 } 30)) (fun h => by cases h) (supC_one _) (by simp only [maxLen]; omega) (by omega); intro a3 cap3 w3 hr3 hk3 hb3))
            obtain ⟨a4, cap4, hv4, hr4, hk4, hg4⟩ := hM'.out
            simp only [Value.slice.injEq] at hv4
            obtain ⟨rfl, _, rfl⟩ := hv4
            have hfin := made_step (s := { l k with live := 1 }) (ls := builtE l p k ++ [empt]) hk4 hg4 (((Keeps.refl Nil w2).alloc _).alloc _) (by rw [List.length_append, cells_snoc]; exact hr3) hk3 hb3
            rw [← hs1.out, ← hbE'.out] at hfin
            have hfin' := Lib.hid hfin
            clear hr3 hk3 hb3 hfin hr4 hk4 hg4
            go_wp2
            go_roundw
            case rel => exact ⟨k + 1, by omega, by go_num, by have := hfin'.out; simpa using this⟩
            case measure => simp [intOf]; omega
          · have hs1 := Lib.hid (show some1 (l k) = l k from if_neg hlv)
            go_wp2_with (first | (at_builtin; refine wpList_app _ rfl _ _ 22 rfl 30 i30 (.agg #[.int .u32 0, .int .i64 0, .int .i64 0, .int .i64 0, .int .i64 0, .int .i64 0, .bool false]) 7 56 Try.underlying22 hi hz0 hz1 hz2 rfl (by decide) a' ((builtE l p k).length) cap' (cellsOf (builtE l p k)) rfl _ 1 1 (supC empt) rfl ?_ (hr'.out.keeps ((Keeps.refl Nil wr).alloc _) (fun _ _ h => h)) (src_sup (sup_new wr empt 30)) (fun h => by cases h) (supC_one _) (by simp only [maxLen]; omega) (by omega); intro a2 cap2 w2 hr2 hk2 hb2; have hM := made_step (s := empt) hkeep'.out hge'.out ((Keeps.refl Nil wr).alloc _) hr2 hk2 hb2; have hM' := Lib.hid hM; obtain ⟨b2, off2, hbe, e0, e1', e2', e3, e4, e5, e6⟩ := (hl'.out.keeps hM.keeps) k hlt; cases hbe; have hbl2 := lt_of_cell e0; have hr2' := Lib.hid hr2; clear hr2 hk2 hb2 hM) | (at_builtin; refine wpList_app _ rfl _ _ 22 rfl 30 i30 (.agg #[.int .u32 0, .int .i64 0, .int .i64 0, .int .i64 0, .int .i64 0, .int .i64 0, .bool false]) 7 56 Try.underlying22 hi hz0 hz1 hz2 rfl (by decide) a2 ((builtE l p k).length + 1) cap2 (cellsOf (builtE l p k) ++ supC empt) rfl _ 1 1 (supC (l k)) rfl ?_ (hr2'.out.keeps (((Keeps.refl Nil w2).alloc _).alloc _) (fun _ _ h => h)) (src_sup (sup_new2 w2 _ (l k) 30)) (fun h => by cases h) (supC_one _) (by simp only [maxLen]; omega) (by omega); intro a3 cap3 w3 hr3 hk3 hb3))
            obtain ⟨a4, cap4, hv4, hr4, hk4, hg4⟩ := hM'.out
            simp only [Value.slice.injEq] at hv4
            obtain ⟨rfl, _, rfl⟩ := hv4
            have hfin := made_step (s := (l k)) (ls := builtE l p k ++ [empt]) hk4 hg4 (((Keeps.refl Nil w2).alloc _).alloc _) (by rw [List.length_append, cells_snoc]; exact hr3) hk3 hb3
            rw [← hs1.out, ← hbE'.out] at hfin
            have hfin' := Lib.hid hfin
            clear hr3 hk3 hb3 hfin hr4 hk4 hg4
            go_wp2
            go_roundw
            case rel => exact ⟨k + 1, by omega, by go_num, by have := hfin'.out; simpa using this⟩
            case measure => simp [intOf]; omega
        · have e1 : (k == p) = false := by simpa using hkp
          have hbE : builtE l p (k + 1) = builtE l p k ++ [some1 (l k)] := by rw [builtE, if_neg hkp]
          have hbE' := Lib.hid hbE
          have hlen2 : (builtE l p k).length ≤ n := by split at hlenE <;> omega
          clear hbE hkp
          have hlenE' := Lib.hid hlenE
          clear hlenE
          by_cases hlv : (l k).live ≤ 0
          · have hs1 := Lib.hid (show some1 (l k) = { l k with live := 1 } from if_pos hlv)
            go_wp2_with (at_builtin; refine wpList_app _ rfl _ _ 22 rfl 30 i30 (.agg #[.int .u32 0, .int .i64 0, .int .i64 0, .int .i64 0, .int .i64 0, .int .i64 0, .bool false]) 7 56 Try.underlying22 hi hz0 hz1 hz2 rfl (by decide) a' ((builtE l p k).length) cap' (cellsOf (builtE l p k)) rfl _ 1 1 (supC { l k with live := 1 }) rfl ?_ (hr'.out.keeps (((Keeps.refl Nil wr).alloc _).alloc _) (fun _ _ h => h)) (src_sup (sup_new2 wr _ { l k with live := 1 } 30)) (fun h => by cases h) (supC_one _) (by simp only [maxLen]; omega) (by omega); intro a2 cap2 w2 hr2 hk2 hb2)
            have hfin := made_step (s := { l k with live := 1 }) hkeep'.out hge'.out (((Keeps.refl Nil wr).alloc _).alloc _) hr2 hk2 hb2
            rw [← hs1.out, ← hbE'.out] at hfin
            have hfin' := Lib.hid hfin
            clear hr2 hk2 hb2 hfin
            go_wp2
            go_roundw
            case rel => exact ⟨k + 1, by omega, by go_num, hfin'.out⟩
            case measure => simp [intOf]; omega
          · have hs1 := Lib.hid (show some1 (l k) = l k from if_neg hlv)
            go_wp2_with (at_builtin; refine wpList_app _ rfl _ _ 22 rfl 30 i30 (.agg #[.int .u32 0, .int .i64 0, .int .i64 0, .int .i64 0, .int .i64 0, .int .i64 0, .bool false]) 7 56 Try.underlying22 hi hz0 hz1 hz2 rfl (by decide) a' ((builtE l p k).length) cap' (cellsOf (builtE l p k)) rfl _ 1 1 (supC (l k)) rfl ?_ (hr'.out.keeps (((Keeps.refl Nil wr).alloc _).alloc _) (fun _ _ h => h)) (src_sup (sup_new2 wr _ (l k) 30)) (fun h => by cases h) (supC_one _) (by simp only [maxLen]; omega) (by omega); intro a2 cap2 w2 hr2 hk2 hb2)
            have hfin := made_step (s := (l k)) hkeep'.out hge'.out (((Keeps.refl Nil wr).alloc _).alloc _) hr2 hk2 hb2
            rw [← hs1.out, ← hbE'.out] at hfin
            have hfin' := Lib.hid hfin
            clear hr2 hk2 hb2 hfin
            go_wp2
            go_roundw
            case rel => exact ⟨k + 1, by omega, by go_num, hfin'.out⟩
            case measure => simp [intOf]; omega
      · obtain rfl : k = n := by omega
        by_cases hpk : p = k
        · have e1 : (p == k) = true := by simpa using hpk
          have e2 : (p == p) = true := by simp
          have hlen3 : (builtE l p k).length = k := by rw [hlenE, if_neg (by omega)]; rfl
          have hall : allE l p k = builtE l p k ++ [empt] := if_pos hpk
          have hg1 := Lib.hid (empty_greedy (l := l) hpn)
          have hg2 := Lib.hid (empty_benef (l := l) hpn)
          have hlen4 : (builtE l p k).length ≤ k := by omega
          have hall' := Lib.hid hall
          have hlen3' := Lib.hid hlen3
          clear hlenE hall hlen3 hpk
          go_wp2_with (at_builtin; refine wpList_app _ rfl _ _ 22 rfl 30 i30 (.agg #[.int .u32 0, .int .i64 0, .int .i64 0, .int .i64 0, .int .i64 0, .int .i64 0, .bool false]) 7 56 Try.underlying22 hi hz0 hz1 hz2 rfl (by decide) a' ((builtE l p k).length) cap' (cellsOf (builtE l p k)) rfl _ 1 1 (supC empt) rfl ?_ (hr'.out.keeps ((Keeps.refl Nil wr).alloc _) (fun _ _ h => h)) (src_sup (sup_new wr empt 30)) (fun h => by cases h) (supC_one _) (by simp only [maxLen]; omega) (by omega); intro a2 cap2 w2 hr2 hk2 hb2; have hM := made_step (s := empt) hkeep'.out hge'.out ((Keeps.refl Nil wr).alloc _) hr2 hk2 hb2; have hK2' := Lib.hid hM.keeps; have hS' := Lib.hid (sups_of_snoc hall'.out hr2); clear hr2 hk2 hb2 hM)
          refine (choose_val _ _ _ (fun j => (allE l p k).getD j default) 1 p _ (by exact hS'.out) (by simp only [maxLen]; omega) (by rw [hlen3'.out]; exact hg1.out)).mono ?_
          rintro e w3 ⟨rfl, k3⟩
          have k3' := Lib.hid k3
          clear k3
          go_wp2_with fail
          refine (choose_val _ _ _ (fun j => (allE l p k).getD j default) 2 p _ (by exact hS'.out.keeps k3'.out) (by simp only [maxLen]; omega) (by rw [hlen3'.out]; exact hg2.out)).mono ?_
          rintro e w4 ⟨rfl, k4⟩
          have k4' := Lib.hid k4
          clear k4
          go_wp2_with fail
          go_ret
          exact ⟨rfl, (hK2'.out.trans k3'.out).trans k4'.out⟩
        · have e1 : (p == k) = false := by simpa using hpk
          have e2 : (p == p) = true := by simp
          have hall : allE l p k = builtE l p k := if_neg hpk
          have hlen3 : (builtE l p k).length = k + 1 := by rw [hlenE, if_pos (by omega)]
          have hg1 := Lib.hid (empty_greedy (l := l) hpn)
          have hg2 := Lib.hid (empty_benef (l := l) hpn)
          have hlen4 : (builtE l p k).length ≤ k + 1 := by omega
          have hS' := Lib.hid (hall ▸ hr'.out.sups : SupsAt wr a' (builtE l p k).length (fun j => (allE l p k).getD j default))
          have hlen3' := Lib.hid hlen3
          clear hlenE hall hlen3 hpk
          go_wp2_with fail
          refine (choose_val _ _ _ (fun j => (allE l p k).getD j default) 1 p _ (by exact hS'.out) (by simp only [maxLen]; omega) (by rw [hlen3'.out]; exact hg1.out)).mono ?_
          rintro e w3 ⟨rfl, k3⟩
          have k3' := Lib.hid k3
          clear k3
          go_wp2_with fail
          refine (choose_val _ _ _ (fun j => (allE l p k).getD j default) 2 p _ (by exact hS'.out.keeps k3'.out) (by simp only [maxLen]; omega) (by rw [hlen3'.out]; exact hg2.out)).mono ?_
          rintro e w4 ⟨rfl, k4⟩
          have k4' := Lib.hid k4
          clear k4
          go_wp2_with fail
          go_ret
          exact ⟨rfl, (hkeep'.out.trans k3'.out).trans k4'.out⟩
end Go.Proofs.Ytiemfmkaofakoaa
