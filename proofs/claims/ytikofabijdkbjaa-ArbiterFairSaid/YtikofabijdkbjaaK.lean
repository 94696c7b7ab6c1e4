/- ArbiterFair: the walk -/
import Derived.Test.YtikofabijdkbjaaJ
import Derived.Test.YtikofabijdkbjaaF
namespace Go.Proofs.Ytikofabijdkbjaa
open Go.RowKit

/-- who is ready, before the queue itself -/
def rdy (k : Nat) (row : List Bool) : List Bool := splice (List.replicate k false) 0 (row.take k)
theorem rdy_len (k : Nat) (row : List Bool) : (rdy k row).length = k := by
  unfold rdy; rw [length_splice]
  · simp
  · simp; omega
theorem rdy_cells (k : Nat) (row : List Bool) : (splice ((List.replicate k false).map Value.bool) 0 ((row.map Value.bool).take k)).toArray = bcells (rdy k row) := by
  unfold bcells rdy splice
  simp [List.map_take, List.map_drop]

theorem BoolsAt.nil0 {w : World} {a : Option Addr} {bs : List Bool} (h : BoolsAt w a bs) (ha : a = none) : bs.length = 0 := by
  apply Classical.byContradiction
  intro hn
  obtain ⟨b, off, hb, _⟩ := h 0 (by omega)
  rw [ha] at hb; cases hb
theorem BoolsAt.src {w : World} {a : Option Addr} {bs : List Bool} (h : BoolsAt w a bs) (hn : a = none → bs.length = 0) : Src w a 1 bs.length (bs.map .bool) := by
  refine ⟨by simp, hn, ?_⟩
  intro ad ha j u hu
  have hj : j < bs.length := by
    have := (List.getElem?_eq_some_iff.1 hu).1
    simpa using this
  obtain ⟨b, off, hb, hc⟩ := h j hj
  rw [ha] at hb; cases hb
  simp [hj] at hu
  rw [← gb_eq hj] at hu
  subst hu
  rw [Addr.add_lit]; exact hc

theorem rawCell {w2 : World} {k cap2 : Nat} {a2 : Option Addr} {vs : List Value} {x : Value} (hl : vs.length = k) (h : RowAt w2 3 1 a2 (k + 1) cap2 (vs ++ [x])) : ∃ g, a2 = some ⟨g, 0, none⟩ ∧ w2.cell? ⟨g, k, none⟩ = some x := by
  rcases h.form with ⟨_, h2, _⟩ | ⟨g, cur, ha, hn, hh, hs, ht⟩
  · omega
  · refine ⟨g, ha, ?_⟩
    subst ha
    have := h.src.2.2 ⟨g, 0, none⟩ rfl k x (by simp [← hl])
    rw [Addr.add_lit, Nat.zero_add] at this
    exact this

/-- what stands between two steps of the script -/
structure Fair (w wr : World) (A B : Nat) (a' : Option Addr) (cap' : Nat) (bursts : List Int) (q : Nat) (s : Arb) (o : Int) : Prop where
  so : Sole w wr A B 0 bursts s
  row : IntRow wr a' cap' bursts
  ga : ∀ x, blk a' = some x → x ≠ A
  bd : Bound s q o
theorem Fair.keeps {w wr w' : World} {A B : Nat} {a' : Option Addr} {cap' : Nat} {bursts : List Int} {q : Nat} {s : Arb} {o : Int} (h : Fair w wr A B a' cap' bursts q s o) (hk : Keeps Nil wr w') : Fair w w' A B a' cap' bursts q s o :=
  ⟨h.so.keeps hk, h.row.keeps hk (fun _ _ h => h), h.ga, h.bd⟩
theorem Fair.next {w wr w' : World} {A B : Nat} {a' : Option Addr} {cap' : Nat} {bursts : List Int} {q : Nat} {s : Arb} {o : Int} (h : Fair w wr A B a' cap' bursts q s o) (hq : q < s.bursts.length) {bs : List Bool} (hr : gb bs q = true)
    (hk : Keeps (· = A) wr w') (ha : ArbAt w' A B (s.next bs).2) : Fair w w' A B a' cap' bursts q (s.next bs).2 (if (s.next bs).1 = (q : Int) then 0 else o + 1) :=
  ⟨h.so.next bs hk ha, h.row.keeps hk (fun x hx => h.ga x hx), h.ga, h.bd.step hq hr⟩

theorem Fair.le {w wr : World} {A B : Nat} {a' : Option Addr} {cap' : Nat} {raw : List Int} {k q : Nat} {s : Arb} {o : Int} (h : Fair w wr A B a' cap' (mkB 5 raw k) q s o) (hk : k ≤ raw.length) : 0 ≤ o ∧ o ≤ rsum 5 raw k - gi (mkB 5 raw k) q := by
  have := h.bd.le
  rw [h.so.bu, mkB_len hk, rsum_eq hk k (Nat.le_refl _)] at this
  exact ⟨h.bd.nn, this⟩

set_option maxHeartbeats 4000000 in
set_option maxRecDepth 100000 in
theorem fair_any (a : Option Addr) (cap : Nat) (raw : List Int) (queue : Int) (b : Option Addr) (bc : Nat) (rows : List (List Bool)) (w : World) (hx : IntsAt w a raw) (hxr : ∀ j, j < raw.length → -9223372036854775808 ≤ gi raw j ∧ gi raw j ≤ 9223372036854775807) (hm : raw.length ≤ maxLen)
    (hb0 : -9223372036854775808 ≤ queue) (hb1 : queue ≤ 9223372036854775807) (hrows : RowsAt w b rows) (hrm : rows.length ≤ maxLen) :
    Calls Try.prog 4 #[.slice a raw.length cap, .int .i64 queue, .slice b rows.length bc] w fun e w' => e = .returned (.bool true) ∧ Keeps Nil w w' := by
  obtain ⟨i0, hi, hz0, hz1, hz2⟩ := info_parts Try.info3
  obtain ⟨i4, hi4, hz40, hz41, hz42⟩ := info_parts Try.info4
  unfold maxLen at hm
  have hrm' := hrm
  unfold maxLen at hrm'
  have hx' := Lib.hid hx
  have hxr' := Lib.hid hxr
  have hrw' := Lib.hid hrows
  clear hx hxr hrows
  go_enter Try.func4, Try.ntmps4
  go_wp2_with fail
  refine (awake_any w).mono ?_
  rintro e w1 ⟨rfl, k1⟩
  have k1' := Lib.hid k1
  clear k1
  go_wp2_with fail
  go_loopw [8, 9, 10] (fun v sm i wr => ∃ k : Nat, k ≤ raw.length ∧ k ≤ 8 ∧ i = .int .i64 k ∧ sm = .int .i64 (rsum 5 raw k) ∧ RawAt w wr 5 raw k v) (fun _ _ i _ => raw.length - (intOf i).toNat)
  case atStart => exact ⟨0, Nat.zero_le _, by omega, rfl, rfl, none, 0, rfl, RowAt.nil _ _ _, k1'.out, fun g h => by cases h⟩
  case round =>
    obtain ⟨k, hk, hk8, rfl, rfl, a', cap', rfl, hr, hkeep, hge⟩ := hrel
    have hr2 : RowAt wr 3 1 a' k cap' ((mkB 5 raw k).map (.int .i64)) := by
      have := hr; unfold IntRow at this; rw [mkB_len hk] at this; exact this
    have hr2' := Lib.hid hr2
    have hr' := Lib.hid hr
    have hkeep' := Lib.hid hkeep
    have hge' := Lib.hid hge
    clear hr2 hr hkeep hge
    by_cases hlt : k < raw.length ∧ k < 8
    · obtain ⟨hlt, hlt8⟩ := hlt
      have d1 : decide ((k : Int) < raw.length) = true := decide_eq_true (by omega)
      have d2 : decide ((k : Int) < 8) = true := decide_eq_true (by omega)
      obtain ⟨ab, ao, rfl, hc0⟩ := hx'.out k hlt
      have hc := hkeep'.out.cell hc0 (fun h => h)
      obtain ⟨g0, g1⟩ := hxr'.out k hlt
      have z0 := absZ_nn (gi raw k)
      have z1 := absZ_le g0 g1
      obtain ⟨rs0, rs1⟩ := rsum_rng (m := 5) (by omega) (raw := raw) k
      have hm0 := Int.emod_nonneg (absZ (gi raw k)) (show (5 : Int) ≠ 0 by omega)
      have hm1 := Int.emod_lt_of_pos (absZ (gi raw k)) (show (0 : Int) < 5 by omega)
      have hk5 : rsum 5 raw k ≤ 40 := by omega
      clear hc0 rs1
      go_wp2_with (first | (go_at_call 12; refine (abs_any _ _ g0 g1).mono ?_; rintro e w' ⟨rfl, rfl⟩) | (at_builtin; refine wpList_app _ rfl _ _ 22 rfl 3 i0 (.int .i64 0) 1 8 Try.underlying22 hi hz0 hz1 hz2 rfl (by decide) _ k cap' ((mkB 5 raw k).map (.int .i64)) rfl _ 1 1 [.int .i64 (1 + absZ (gi raw k) % 5)] rfl ?_ ?c1 ?c2 ?c3 ?c4 ?c5 ?c6; intro a2 cap2 w2 hr3 hk3 hb3; obtain ⟨ab2, ha2, hc2⟩ := rawCell (by simp [mkB_len hk]) hr3; subst ha2))
      case c1 => exact hr2'.out.keeps ((Keeps.refl Nil wr).alloc _) (fun _ _ h => h)
      case c2 => exact src_one (cell_new1 _ _ _)
      case c3 => exact fun h => by cases h
      case c4 => simp [Value.oneCell']
      case c5 => simp [maxLen]; omega
      case c6 => omega
      have hfin0 := rawStep hlt hkeep'.out hge'.out hr3 hk3 hb3
      have hfin := Lib.hid hfin0
      have hs2 := Lib.hid (show rsum 5 raw k + (1 + absZ (gi raw k) % 5) = rsum 5 raw (k + 1) from rfl)
      clear hr3 hk3 hb3 hfin0
      go_wp2
      go_roundw
      case rel => exact ⟨k + 1, by omega, by omega, by go_num, by rw [hs2.out], hfin.out⟩
      case measure => simp [intOf]; omega
    · have hex : (k < raw.length ∧ 8 ≤ k) ∨ raw.length ≤ k := by omega
      clear hlt
      by_cases h0 : k = 0
      · have e0 : ((k : Int) == 0) = true := by simp [h0]
        have hx0 : raw.length ≤ k := by omega
        clear h0 hex
        go_wp2_with fail
        go_ret
        exact ⟨rfl, hkeep'.out⟩
      · have e0 : ((k : Int) == 0) = false := by simp [h0]
        have hk1 : 1 ≤ k := by omega
        clear h0
        have hOK := Lib.hid (mkB_ok (m := 5) (by omega) (by omega) hk1 hk hk8)
        have hlen := Lib.hid (mkB_len (m := 5) hk)
        have hnew := new_yes a' cap' (mkB 5 raw k) wr hr'.out.ints hr'.out.nil0 hOK.out
        rw [hlen.out] at hnew
        have hnew' := Lib.hid hnew
        clear hnew
        have r0 := absZ_nn queue
        have r1 := absZ_le hb0 hb1
        obtain ⟨q, hq⟩ := Int.eq_ofNat_of_zero_le (Int.emod_nonneg (absZ queue) (show (k : Int) ≠ 0 by omega))
        have hqk : q < k := by have := Int.emod_lt_of_pos (absZ queue) (show 0 < (k : Int) by omega); omega
        have hqi : absZ queue % (k : Int) = (q : Int) := hq
        clear hq
        rcases hex with ⟨d1, d2⟩ | d1
        all_goals
          go_wp2_with (go_at_call 12; refine (abs_any _ _ hb0 hb1).mono ?_; rintro e w' ⟨rfl, rfl⟩)
          refine hnew'.out.mono ?_
          rintro e w3 ⟨A, B, rfl, hA, k3, hA3, hB3⟩
          have hF : Fair w w3 A B a' cap' (mkB 5 raw k) q (Arb.start (mkB 5 raw k)) 0 := by
            refine ⟨⟨hA, Arb.start_ok hOK.out, rfl, hkeep'.out.trans k3, Nat.le_trans hkeep'.out.size hA3⟩, hr'.out.keeps k3 (fun _ _ h => h), ?_, Bound.start hOK.out (by rw [hlen.out]; exact hqk)⟩
            intro x hx
            have := hr'.out.lt hx
            omega
          have hF' := Lib.hid hF
          clear hA k3 hA3 hB3 hF
          go_wp2_with fail
          go_loopw [14, 15] (fun oth i wx => ∃ (j : Nat) (s : Arb) (o : Int), j ≤ rows.length ∧ j ≤ 200 ∧ i = .int .i64 j ∧ oth = .int .i64 o ∧ Fair w wx A B a' cap' (mkB 5 raw k) q s o) (fun _ i _ => rows.length - (intOf i).toNat)
          case atStart => exact ⟨0, _, _, Nat.zero_le _, by omega, rfl, rfl, hF'.out⟩
          case round =>
            obtain ⟨j, s, o, hj, hj2, rfl, rfl, hf⟩ := hrel
            have hf' := Lib.hid hf
            have hole := hf.le hk
            have hmk := run_make1 (P := Try.prog) wr 33 4 i4 (.bool false) 1 Try.underlying33 hi4 hz40 hz41 hz42 rfl .i64 .i64 k (by omega) (by omega)
            rw [bcells_replicate] at hmk
            obtain ⟨ab2, ao2, ha2, hc2⟩ := hf.row.ints q (by rw [hlen.out]; exact hqk)
            subst ha2
            obtain ⟨gb0, gb1⟩ := mkB_rng (m := 5) (raw := raw) (k := k) (j := q) (by omega) (by rw [hlen.out]; exact hqk)
            have hrs := (rsum_rng (m := 5) (by omega) (raw := raw) k).2
            have hrs' : rsum 5 raw k ≤ 40 := by omega
            clear hf hrs
            by_cases hlt : j < rows.length ∧ j < 200
            · obtain ⟨hlt, hlt2⟩ := hlt
              obtain ⟨rb, ro, ra, rc, rfl, hcell0, hbools, hrl⟩ := hrw'.out j hlt
              have hcell := hf'.out.so.k.cell hcell0 (fun h => h)
              have hrl' : (gr rows j).length ≤ 9223372036854775807 := by unfold maxLen at hrl; omega
              have hb' := Lib.hid (hbools.keeps hf'.out.so.k (fun _ _ _ h => h))
              have hrbl := lt_of_cell hcell
              have hrn' := Lib.hid (BoolsAt.nil0 hbools)
              clear hcell0 hbools hrl
              go_wp2_with (refine wpList_cpy _ rfl _ _ 33 33 rfl 4 Try.underlying33 (by rw [hi4]; simp [hz41]) wr.heap.size 0 k k ra (gr rows j).length rc rfl rfl ((List.replicate k false).map .bool) 4 ((gr rows j).map .bool) ?_ ?c1 ?c2 ?c3 ?c4; intro w4 hg4 hk4; rw [rdy_cells] at hg4; have hcq : w4.cell? ⟨wr.heap.size, q, none⟩ = some (.bool (gb (rdy k (gr rows j)) q)) := by { rw [cell_of_heap hg4, bcells_get (by rw [rdy_len]; exact hqk)] }; have hfq := frozen_of_heap hg4 q; have hg4' := Lib.hid hg4; have hk4' := Lib.hid hk4; clear hg4 hk4)
              case c1 => exact heap_alloc_new _ _
              case c2 => exact (hb'.out.src (fun h => hrn'.out h)).keeps ((Keeps.refl Nil wr).alloc _)
              case c3 => simp
              case c4 =>
                intro v hv
                obtain ⟨x, _, rfl⟩ := List.mem_map.1 hv
                rfl
              have hkk : Keeps Nil wr (w4.setCell ⟨wr.heap.size, q, none⟩ (.bool true)) := (((Keeps.refl Nil wr).alloc _).trans' hk4'.out (fun x e => .inr (by omega))).setCell (p := ⟨wr.heap.size, q, none⟩) (.inr (Nat.le_refl _)) _
              have hF2 := hf'.out.keeps hkk
              have hrd := heap_setCell_same hg4'.out q (.bool true)
              rw [bcells_set] at hrd
              have hql : q < s.bursts.length := by rw [hF2.so.bu, hlen.out]; exact hqk
              have hyes : gb ((rdy k (gr rows j)).set q true) q = true := by rw [gb_set (by rw [rdy_len]; exact hqk), if_pos rfl]
              have hnx := next_any A B s (some ⟨wr.heap.size, 0, none⟩) k ((rdy k (gr rows j)).set q true) _ hF2.so.ok hF2.so.a (BoolsAt.of_heap hrd)
              obtain ⟨n, hn1, hn2, hn3⟩ := next_ready hF2.so.ok hql hyes
              have hnl : n < k := by rw [hF2.so.bu, hlen.out] at hn2; exact hn2
              rw [List.length_set, rdy_len, hn1] at hnx
              refine hnx.mono ?_
              rintro e w5 ⟨rfl, ha5, hk5⟩
              have hF3 := hF2.next hql hyes hk5 ha5
              rw [hn1] at hF3
              have hgA : wr.heap.size ≠ A := by
                obtain ⟨_, hAh, _⟩ := hf'.out.so.a
                have := lt_of_heap hAh
                omega
              have hrd5 := hk5.heap hrd hgA
              have hcn : w5.cell? ⟨wr.heap.size, n, none⟩ = some (.bool true) := by rw [cell_of_heap hrd5, bcells_get (by rw [List.length_set, rdy_len]; exact hnl), hn3]
              obtain ⟨ab3, ao3, ha3, hc3⟩ := hF3.row.ints q (by rw [hlen.out]; exact hqk)
              cases ha3
              have hle3 := hF3.le hk
              have hF3' := Lib.hid hF3
              have hnn : ((n : Int) == (q : Int)) = decide (n = q) := by by_cases e : n = q <;> simp [e] <;> omega
              by_cases hnq : n = q
              · subst hnq
                have he0 : (if (n : Int) = (n : Int) then (0 : Int) else o + 1) = 0 := if_pos rfl
                rw [he0] at hle3 hF3'
                clear hnx ha5 hk5 hrd hrd5 hF2 hF3 hkk hyes hql hn1 hn2 hn3 hcq hfq hc2 hnn he0 hmk hcell
                go_wp2_with fail
                go_roundw
                case rel => exact ⟨j + 1, _, _, by omega, by omega, by go_num, rfl, hF3'.out⟩
                case measure => simp [intOf]; omega
              · have he0 : (if (n : Int) = (q : Int) then (0 : Int) else o + 1) = o + 1 := if_neg (by omega)
                have hnq' : ((n : Int) == (q : Int)) = false := by rw [hnn]; exact decide_eq_false hnq
                rw [he0] at hle3 hF3'
                clear hnx ha5 hk5 hrd hrd5 hF2 hF3 hkk hyes hql hn1 hn2 hn3 hcq hfq hc2 hnn he0 hmk hcell hnq
                go_wp2_with fail
                go_roundw
                case rel => exact ⟨j + 1, _, _, by omega, by omega, by go_num, rfl, hF3'.out⟩
                case measure => simp [intOf]; omega
            · go_wp2_with fail
              all_goals
                go_ret
                exact ⟨rfl, hf'.out.so.k⟩
end Go.Proofs.Ytikofabijdkbjaa
