/- ArbiterAlone: the walk -/
import Derived.Test.YtikofabijdkbjaaG
import Derived.Deep.DeepCutAuto
namespace Go.Proofs.Ytikofabijdkbjaa
open Go.RowKit

theorem Try.info4 : (Try.prog.info? 4).map (fun i => (i.zero, i.size, i.bytes)) = some (some (.bool false), 1, 1) := by kernel_rfl

/-- Of the raw numbers the first k are bursts. -/
def RawAt (w wr : World) (m : Int) (raw : List Int) (k : Nat) (v : Value) : Prop :=
  ∃ a' cap', v = .slice a' k cap' ∧ IntRow wr a' cap' (mkB m raw k) ∧ Keeps Nil w wr ∧ ∀ g, blk a' = some g → w.heap.size ≤ g

theorem rawStep {w wr w2 : World} {m : Int} {raw : List Int} {k cap2 : Nat} {a' a2 : Option Addr} (hlt : k < raw.length) (hkeep : Keeps Nil w wr)
    (hge : ∀ g, blk a' = some g → w.heap.size ≤ g)
    (hr3 : RowAt w2 3 1 a2 (k + 1) cap2 ((mkB m raw k).map (.int .i64) ++ [.int .i64 (1 + absZ (gi raw k) % m)])) (hk3 : Keeps (fun j => blk a' = some j) (wr.alloc (.cells #[.int .i64 (1 + absZ (gi raw k) % m)] 3)) w2)
    (hb3 : blk a2 = blk a' ∨ blk a2 = some (wr.alloc (.cells #[.int .i64 (1 + absZ (gi raw k) % m)] 3)).heap.size ∧ (wr.alloc (.cells #[.int .i64 (1 + absZ (gi raw k) % m)] 3)).heap.size < w2.heap.size) :
    RawAt w w2 m raw (k + 1) (.slice a2 (k + 1) cap2) := by
  refine ⟨a2, cap2, rfl, ?_, ?_, ?_⟩
  · unfold IntRow
    rw [mkB_len (by omega), mkB_succ hlt, List.map_append]
    exact hr3
  · exact (hkeep.trans' ((Keeps.refl Nil wr).alloc _) (fun _ h => h.elim)).trans' hk3 (fun j hj => .inr (hge j hj))
  · intro g hg
    have := hkeep.size
    rcases hb3 with hb3 | ⟨hb3, _⟩
    · rw [hb3] at hg; exact hge g hg
    · rw [hb3] at hg; simp at hg; omega

theorem IntRow.nil0 {w : World} {a : Option Addr} {cap : Nat} {xs : List Int} (h : IntRow w a cap xs) : a = none → cap = 0 ∧ xs.length = 0 := by
  intro ha
  rcases h.form with ⟨_, h2, h3⟩ | ⟨g, cur, h2, _⟩
  · exact ⟨h3, h2⟩
  · rw [h2] at ha; cases ha
/-- only queue q is ready -/
theorem only_q {n q j : Nat} (hq : q < n) (h : gb ((List.replicate n false).set q true) j = true) : j = q := by
  rw [gb_set (by simpa using hq), gb_replicate] at h
  split at h
  · assumption
  · cases h
theorem only_yes {n q : Nat} (hq : q < n) : gb ((List.replicate n false).set q true) q = true := by
  rw [gb_set (by simpa using hq), if_pos rfl]

structure Sole (w wr : World) (A B g : Nat) (bursts : List Int) (s : Arb) : Prop where
  a : ArbAt wr A B s
  ok : s.Ok
  bu : s.bursts = bursts
  k : Keeps Nil w wr
  hA : w.heap.size ≤ A
theorem Sole.keeps {w wr w' : World} {A B g : Nat} {bursts : List Int} {s : Arb} (h : Sole w wr A B g bursts s) (hk : Keeps Nil wr w') : Sole w w' A B g bursts s :=
  ⟨h.a.keeps hk (fun h => h) (fun h => h), h.ok, h.bu, h.k.trans hk, h.hA⟩
theorem Sole.next {w wr w' : World} {A B g : Nat} {bursts : List Int} {s : Arb} (h : Sole w wr A B g bursts s) (bs : List Bool) (hk : Keeps (· = A) wr w') (ha : ArbAt w' A B (s.next bs).2) : Sole w w' A B g bursts (s.next bs).2 :=
  ⟨ha, Arb.next_ok h.ok bs, (Arb.next_bursts s bs).trans h.bu, h.k.trans' hk (fun j e => .inr (by have := h.hA; omega)), h.hA⟩

set_option maxHeartbeats 2000000 in
set_option maxRecDepth 100000 in
theorem alone_any (a : Option Addr) (cap : Nat) (raw : List Int) (b : Option Addr) (bc : Nat) (qs : List Int) (w : World) (hx : IntsAt w a raw) (hxr : ∀ j, j < raw.length → -9223372036854775808 ≤ gi raw j ∧ gi raw j ≤ 9223372036854775807) (hm : raw.length ≤ maxLen)
    (hq : IntsAt w b qs) (hqr : ∀ j, j < qs.length → -9223372036854775808 ≤ gi qs j ∧ gi qs j ≤ 9223372036854775807) (hqm : qs.length ≤ maxLen) :
    Calls Try.prog 6 #[.slice a raw.length cap, .slice b qs.length bc] w fun e w' => e = .returned (.bool true) ∧ Keeps Nil w w' := by
  obtain ⟨i0, hi, hz0, hz1, hz2⟩ := info_parts Try.info3
  obtain ⟨i4, hi4, hz40, hz41, hz42⟩ := info_parts Try.info4
  unfold maxLen at hm hqm
  have hx' := Lib.hid hx
  have hq' := Lib.hid hq
  have hxr' := Lib.hid hxr
  have hqr' := Lib.hid hqr
  clear hx hq hxr hqr
  go_enter Try.func6, Try.ntmps6
  go_wp2_with fail
  refine (awake_any w).mono ?_
  rintro e w1 ⟨rfl, k1⟩
  have k1' := Lib.hid k1
  clear k1
  go_wp2_with fail
  go_loopw [6, 7] (fun v i wr => ∃ k : Nat, k ≤ raw.length ∧ k ≤ 8 ∧ i = .int .i64 k ∧ RawAt w wr 6 raw k v) (fun _ i _ => raw.length - (intOf i).toNat)
  case atStart => exact ⟨0, Nat.zero_le _, by omega, rfl, none, 0, rfl, RowAt.nil _ _ _, k1'.out, fun g h => by cases h⟩
  case round =>
    obtain ⟨k, hk, hk8, rfl, a', cap', rfl, hr, hkeep, hge⟩ := hrel
    have hr2 : RowAt wr 3 1 a' k cap' ((mkB 6 raw k).map (.int .i64)) := by
      have := hr; unfold IntRow at this; rw [mkB_len hk] at this; exact this
    have hr2' := Lib.hid hr2
    have hr' := Lib.hid hr
    have hkeep' := Lib.hid hkeep
    have hge' := Lib.hid hge
    clear hr2 hr hkeep hge
    by_cases hlt : k < raw.length ∧ k < 8
    · obtain ⟨hlt, hlt8⟩ := hlt
      have d1 : decide ((k : Int) < raw.length) = true := decide_eq_true (by omega)
      have d2 : decide ((k : Int) < 8) = true := decide_eq_true (by omega)
      obtain ⟨ab, ao, rfl, hc0⟩ := hx'.out k hlt
      have hc := hkeep'.out.cell hc0 (fun h => h)
      obtain ⟨g0, g1⟩ := hxr'.out k hlt
      have z0 := absZ_nn (gi raw k)
      have z1 := absZ_le g0 g1
      clear hc0
      go_wp2_with (first | (go_at_call 12; refine (abs_any _ _ g0 g1).mono ?_; rintro e w' ⟨rfl, rfl⟩) | (at_builtin; refine wpList_app _ rfl _ _ 22 rfl 3 i0 (.int .i64 0) 1 8 Try.underlying22 hi hz0 hz1 hz2 rfl (by decide) _ k cap' ((mkB 6 raw k).map (.int .i64)) rfl _ 1 1 [.int .i64 (1 + absZ (gi raw k) % 6)] rfl ?_ ?c1 ?c2 ?c3 ?c4 ?c5 ?c6; intro a2 cap2 w2 hr3 hk3 hb3))
      case c1 => exact hr2'.out.keeps ((Keeps.refl Nil wr).alloc _) (fun _ _ h => h)
      case c2 => exact src_one (cell_new1 _ _ _)
      case c3 => exact fun h => by cases h
      case c4 => simp [Value.oneCell']
      case c5 => simp [maxLen]; omega
      case c6 => omega
      have hfin := Lib.hid (rawStep hlt hkeep'.out hge'.out hr3 hk3 hb3)
      clear hr3 hk3 hb3
      go_wp2
      go_roundw
      case rel => exact ⟨k + 1, by omega, by omega, by go_num, hfin.out⟩
      case measure => simp [intOf]; omega
    · have hex : (k < raw.length ∧ 8 ≤ k) ∨ raw.length ≤ k := by omega
      clear hlt
      by_cases h0 : k = 0
      · have e0 : ((k : Int) == 0) = true := by simp [h0]
        have hx0 : raw.length ≤ k := by omega
        clear h0 hex
        go_wp2_with fail
        go_ret
        exact ⟨rfl, hkeep'.out⟩
      · have e0 : ((k : Int) == 0) = false := by simp [h0]
        have hk1 : 1 ≤ k := by omega
        clear h0
        have hOK := Lib.hid (mkB_ok (m := 6) (by omega) (by omega) hk1 hk hk8)
        have hlen := Lib.hid (mkB_len (m := 6) hk)
        have hro := hr'.out.nil0
        rw [hlen.out] at hro
        have hro' := Lib.hid hro
        have hnew := new_yes a' cap' (mkB 6 raw k) wr hr'.out.ints hr'.out.nil0 hOK.out
        rw [hlen.out] at hnew
        have hnew' := Lib.hid hnew
        clear hnew hro
        rcases hex with ⟨d1, d2⟩ | d1
        all_goals
          go_wp2_with fail
          refine hnew'.out.mono ?_
          rintro e w3 ⟨A, B, rfl, hA, k3, hA3, hB3⟩
          have hS : Sole w w3 A B 0 (mkB 6 raw k) (Arb.start (mkB 6 raw k)) := ⟨hA, Arb.start_ok hOK.out, rfl, hkeep'.out.trans k3, Nat.le_trans hkeep'.out.size hA3⟩
          have hS' := Lib.hid hS
          have kk := Lib.hid (Nat.le_trans hkeep'.out.size hA3)
          clear hA k3 hA3 hB3 hS
          go_wp2_with fail
          go_loopw [10] (fun i wr => ∃ (j : Nat) (s : Arb), j ≤ qs.length ∧ j ≤ 100 ∧ i = .int .i64 j ∧ Sole w wr A B 0 (mkB 6 raw k) s) (fun i _ => qs.length - (intOf i).toNat)
          case atStart => exact ⟨0, _, Nat.zero_le _, by omega, rfl, hS'.out⟩
          case round =>
            obtain ⟨j, s, hj, hj2, rfl, hs⟩ := hrel
            have hs' := Lib.hid hs
            have hmk := run_make1 (P := Try.prog) wr 33 4 i4 (.bool false) 1 Try.underlying33 hi4 hz40 hz41 hz42 rfl .i64 .i64 k (by omega) (by omega)
            rw [bcells_replicate] at hmk
            clear hs
            by_cases hlt : j < qs.length ∧ j < 100
            · obtain ⟨hlt, hlt2⟩ := hlt
              obtain ⟨qb, qo, rfl, hc0⟩ := hq'.out j hlt
              have hc := hs'.out.k.cell hc0 (fun h => h)
              obtain ⟨g0, g1⟩ := hqr'.out j hlt
              have z0 := absZ_nn (gi qs j)
              have z1 := absZ_le g0 g1
              clear hc0
              obtain ⟨q, hq⟩ := Int.eq_ofNat_of_zero_le (Int.emod_nonneg (absZ (gi qs j)) (show ((k : Int) + 1) ≠ 0 by omega))
              have hql : q ≤ k := by have := Int.emod_lt_of_pos (absZ (gi qs j)) (show 0 < ((k : Int) + 1) by omega); omega
              have hsb := hs'.out.bu
              have hqi : absZ (gi qs j) % ((k : Int) + 1) = (q : Int) := hq
              by_cases hqk : q < k
              · have hbo : BoolsAt (wr.alloc (.cells ((bcells (List.replicate k false)).setIfInBounds q (.bool true)) 4)) (some ⟨wr.heap.size, 0, none⟩) ((List.replicate k false).set q true) := by
                  rw [bcells_set]; exact BoolsAt.of_heap (heap_alloc_new _ _)
                have hal := (Keeps.refl Nil wr).alloc (.cells ((bcells (List.replicate k false)).setIfInBounds q (.bool true)) 4)
                have hnx := next_any A B s (some ⟨wr.heap.size, 0, none⟩) k ((List.replicate k false).set q true) _ hs'.out.ok (hs'.out.a.keeps hal (fun h => h) (fun h => h)) hbo
                have hsl : s.bursts.length = k := by rw [hsb, hlen.out]
                rw [next_alone hs'.out.ok (q := q) (by omega) (only_yes hqk) (fun j h => only_q hqk h)] at hnx
                simp only [List.length_set, List.length_replicate] at hnx
                have hnx' := Lib.hid hnx
                have hal' := Lib.hid hal
                have hq0 := Lib.hid hq
                have hsb' := Lib.hid hsb
                have hsz : (bcells (List.replicate k false)).size = k := by rw [bcells_size]; simp
                have hgt : (bcells (List.replicate k false))[q]? = some (.bool false) := by rw [bcells_get (by simpa using hqk), gb_replicate]
                clear hnx hal hbo hsl hsb hq
                go_wp2_with (go_at_call 12; refine (abs_any _ _ g0 g1).mono ?_; rintro e w' ⟨rfl, rfl⟩)
                refine hnx'.out.mono ?_
                rintro e w5 ⟨rfl, ha5, hk5⟩
                have hfin := Lib.hid ((hs'.out.keeps hal'.out).next _ hk5 ha5)
                clear ha5 hk5 hgt
                go_wp2_with fail
                go_roundw
                case rel => exact ⟨j + 1, _, by omega, by omega, by go_num, hfin.out⟩
                case measure => simp [intOf]; omega
              · have hbo : BoolsAt (wr.alloc (.cells (bcells (List.replicate k false)) 4)) (some ⟨wr.heap.size, 0, none⟩) (List.replicate k false) := BoolsAt.of_heap (heap_alloc_new _ _)
                have hal := (Keeps.refl Nil wr).alloc (.cells (bcells (List.replicate k false)) 4)
                have hnx := next_any A B s (some ⟨wr.heap.size, 0, none⟩) k (List.replicate k false) _ hs'.out.ok (hs'.out.a.keeps hal (fun h => h) (fun h => h)) hbo
                rw [next_nobody (fun j => gb_replicate k j)] at hnx
                simp only [List.length_replicate] at hnx
                have hnx' := Lib.hid hnx
                have hal' := Lib.hid hal
                have hq0 := Lib.hid hq
                have hsb' := Lib.hid hsb
                clear hnx hal hbo hsb hq
                go_wp2_with (go_at_call 12; refine (abs_any _ _ g0 g1).mono ?_; rintro e w' ⟨rfl, rfl⟩)
                refine hnx'.out.mono ?_
                rintro e w5 ⟨rfl, ha5, hk5⟩
                have hfin := Lib.hid ((hs'.out.keeps hal'.out).next _ hk5 ha5)
                clear ha5 hk5
                go_wp2_with fail
                go_roundw
                case rel => exact ⟨j + 1, _, by omega, by omega, by go_num, hfin.out⟩
                case measure => simp [intOf]; omega
            · go_wp2_with fail
              all_goals
                go_ret
                exact ⟨rfl, hs'.out.k⟩
end Go.Proofs.Ytikofabijdkbjaa
