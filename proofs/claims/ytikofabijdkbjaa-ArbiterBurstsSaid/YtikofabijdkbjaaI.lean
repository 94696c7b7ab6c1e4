/- ArbiterBursts: the plain law of turns, and the walk -/
import Derived.Test.YtikofabijdkbjaaH
namespace Go.Proofs.Ytikofabijdkbjaa
open Go.RowKit

/-- The turn of queue q is about to begin. -/
def Ph (s : Arb) (q : Nat) : Prop := (s.fresh = true ∧ q = 0 ∧ s.used = 0) ∨ (s.fresh = false ∧ (s.pos + 1) % s.bursts.length = q % s.bursts.length ∧ s.used = gi s.bursts s.pos)
/-- Of the turn of queue q k are done. -/
def Mid (s : Arb) (q k : Nat) : Prop := if k = 0 then Ph s q else s.fresh = false ∧ s.pos = q ∧ s.used = k

theorem ph_wrap {s : Arb} (h : 2 ≤ s.bursts.length) (hp : Ph s s.bursts.length) : Ph s 0 := by
  rcases hp with ⟨_, h1, _⟩ | ⟨h1, h2, h3⟩
  · omega
  · exact .inr ⟨h1, by rw [h2, Nat.mod_self, Nat.zero_mod], h3⟩
theorem mid_end {s : Arb} {q k : Nat} (hr : 1 ≤ gi s.bursts q) (hk : (k : Int) = gi s.bursts q) (hm : Mid s q k) : Ph s (q + 1) := by
  unfold Mid at hm
  rw [if_neg (by omega)] at hm
  exact .inr ⟨hm.1, by rw [hm.2.1], by rw [hm.2.2, hm.2.1, hk]⟩
theorem mid_step {s : Arb} (hs : s.Ok) {bs : List Bool} {q k : Nat} (hq : q < s.bursts.length) (hk : (k : Int) < gi s.bursts q) (hb : ∀ j, j < s.bursts.length → gb bs j = true) (hm : Mid s q k) :
    (s.next bs).1 = q ∧ Mid (s.next bs).2 q (k + 1) := by
  unfold Mid at hm ⊢
  rw [if_neg (by omega)]
  by_cases h0 : k = 0
  · rw [if_pos h0] at hm
    have hn : ¬ s.takes bs := by
      rintro ⟨t1, t2, t3⟩
      rcases hm with ⟨h1, h2, h3⟩ | ⟨h1, h2, h3⟩
      · omega
      · omega
    have hq0 : s.q 0 = q := by
      unfold Arb.q
      rcases hm with ⟨h1, h2, h3⟩ | ⟨h1, h2, h3⟩
      · rw [h1]; simp [h2]
      · rw [h1]; simp; rw [h2, Nat.mod_eq_of_lt hq]
    have hsk : s.seek bs 0 s.bursts.length = some 0 := by
      have := seek_yes (s := s) (bs := bs) (k := 0) (n := s.bursts.length) hs.len0 (by rw [hq0]; exact hb q hq)
      simpa using this
    rw [next_of_some hn hsk]
    subst h0
    exact ⟨by rw [hq0], rfl, hq0, rfl⟩
  · rw [if_neg h0] at hm
    obtain ⟨h1, h2, h3⟩ := hm
    have ht : s.takes bs := ⟨by omega, by rw [h2, h3]; exact hk, by rw [h2]; exact hb q hq⟩
    rw [next_of_takes ht]
    exact ⟨by rw [h2], h1, h2, by show s.used + 1 = _; rw [h3]; omega⟩

/-- All that stands: the arbiter, the bursts' row, the list of who is ready. -/
structure Tog (w wr : World) (A B g : Nat) (a' : Option Addr) (cap' n : Nat) (bursts : List Int) (bs : List Bool) (s : Arb) : Prop where
  so : Sole w wr A B 0 bursts s
  row : IntRow wr a' cap' bursts
  rdy : wr.heap[g]? = some (.cells (bcells bs) 4 (0, 0))
  gA : g ≠ A
  gB : g ≠ B
  ga : ∀ x, blk a' = some x → x ≠ A ∧ x ≠ g
  gw : w.heap.size ≤ g
  len : bs.length = n
theorem Tog.next {w wr w' : World} {A B g : Nat} {a' : Option Addr} {cap' n : Nat} {bursts : List Int} {bs : List Bool} {s : Arb} (h : Tog w wr A B g a' cap' n bursts bs s) (hk : Keeps (· = A) wr w') (ha : ArbAt w' A B (s.next bs).2) :
    Tog w w' A B g a' cap' n bursts bs (s.next bs).2 :=
  ⟨h.so.next bs hk ha, h.row.keeps hk (fun x hx => (h.ga x hx).1), hk.heap h.rdy h.gA, h.gA, h.gB, h.ga, h.gw, h.len⟩
theorem Tog.set {w wr : World} {A B g : Nat} {a' : Option Addr} {cap' n : Nat} {bursts : List Int} {bs : List Bool} {s : Arb} (h : Tog w wr A B g a' cap' n bursts bs s) (k : Nat) (v : Bool) :
    Tog w (wr.setCell ⟨g, k, none⟩ (.bool v)) A B g a' cap' n bursts (bs.set k v) s := by
  have hk : Keeps (· = g) wr (wr.setCell ⟨g, k, none⟩ (.bool v)) := (Keeps.refl (· = g) wr).setCell (p := ⟨g, k, none⟩) (.inl rfl) _
  refine ⟨⟨h.so.a.keeps hk (fun e => h.gA e.symm) (fun e => h.gB e.symm), h.so.ok, h.so.bu, h.so.k.trans' hk (fun j e => .inr (by have := h.gw; omega)), h.so.hA⟩, h.row.keeps hk (fun x hx => (h.ga x hx).2), ?_, h.gA, h.gB, h.ga, h.gw, by simpa using h.len⟩
  have := heap_setCell_same h.rdy k (.bool v)
  rw [bcells_set] at this
  exact this

set_option maxHeartbeats 4000000 in
set_option maxRecDepth 100000 in
theorem bursts_any (a : Option Addr) (cap : Nat) (raw : List Int) (rounds : Int) (w : World) (hx : IntsAt w a raw) (hxr : ∀ j, j < raw.length → -9223372036854775808 ≤ gi raw j ∧ gi raw j ≤ 9223372036854775807) (hm : raw.length ≤ maxLen)
    (hb0 : -9223372036854775808 ≤ rounds) (hb1 : rounds ≤ 9223372036854775807) :
    Calls Try.prog 5 #[.slice a raw.length cap, .int .i64 rounds] w fun e w' => e = .returned (.bool true) ∧ Keeps Nil w w' := by
  obtain ⟨i0, hi, hz0, hz1, hz2⟩ := info_parts Try.info3
  obtain ⟨i4, hi4, hz40, hz41, hz42⟩ := info_parts Try.info4
  unfold maxLen at hm
  have hx' := Lib.hid hx
  have hxr' := Lib.hid hxr
  clear hx hxr
  go_enter Try.func5, Try.ntmps5
  go_wp2_with fail
  refine (awake_any w).mono ?_
  rintro e w1 ⟨rfl, k1⟩
  have k1' := Lib.hid k1
  clear k1
  go_wp2_with fail
  go_loopw [6, 7] (fun v i wr => ∃ k : Nat, k ≤ raw.length ∧ k ≤ 8 ∧ i = .int .i64 k ∧ RawAt w wr 6 raw k v) (fun _ i _ => raw.length - (intOf i).toNat)
  case atStart => exact ⟨0, Nat.zero_le _, by omega, rfl, none, 0, rfl, RowAt.nil _ _ _, k1'.out, fun g h => by cases h⟩
  case round =>
    obtain ⟨k, hk, hk8, rfl, a', cap', rfl, hr, hkeep, hge⟩ := hrel
    have hr2 : RowAt wr 3 1 a' k cap' ((mkB 6 raw k).map (.int .i64)) := by
      have := hr; unfold IntRow at this; rw [mkB_len hk] at this; exact this
    have hr2' := Lib.hid hr2
    have hr' := Lib.hid hr
    have hkeep' := Lib.hid hkeep
    have hge' := Lib.hid hge
    clear hr2 hr hkeep hge
    by_cases hlt : k < raw.length ∧ k < 8
    · obtain ⟨hlt, hlt8⟩ := hlt
      have d1 : decide ((k : Int) < raw.length) = true := decide_eq_true (by omega)
      have d2 : decide ((k : Int) < 8) = true := decide_eq_true (by omega)
      obtain ⟨ab, ao, rfl, hc0⟩ := hx'.out k hlt
      have hc := hkeep'.out.cell hc0 (fun h => h)
      obtain ⟨g0, g1⟩ := hxr'.out k hlt
      have z0 := absZ_nn (gi raw k)
      have z1 := absZ_le g0 g1
      clear hc0
      go_wp2_with (first | (go_at_call 12; refine (abs_any _ _ g0 g1).mono ?_; rintro e w' ⟨rfl, rfl⟩) | (at_builtin; refine wpList_app _ rfl _ _ 22 rfl 3 i0 (.int .i64 0) 1 8 Try.underlying22 hi hz0 hz1 hz2 rfl (by decide) _ k cap' ((mkB 6 raw k).map (.int .i64)) rfl _ 1 1 [.int .i64 (1 + absZ (gi raw k) % 6)] rfl ?_ ?c1 ?c2 ?c3 ?c4 ?c5 ?c6; intro a2 cap2 w2 hr3 hk3 hb3))
      case c1 => exact hr2'.out.keeps ((Keeps.refl Nil wr).alloc _) (fun _ _ h => h)
      case c2 => exact src_one (cell_new1 _ _ _)
      case c3 => exact fun h => by cases h
      case c4 => simp [Value.oneCell']
      case c5 => simp [maxLen]; omega
      case c6 => omega
      have hfin := Lib.hid (rawStep hlt hkeep'.out hge'.out hr3 hk3 hb3)
      clear hr3 hk3 hb3
      go_wp2
      go_roundw
      case rel => exact ⟨k + 1, by omega, by omega, by go_num, hfin.out⟩
      case measure => simp [intOf]; omega
    · have hex : (k < raw.length ∧ 8 ≤ k) ∨ raw.length ≤ k := by omega
      clear hlt
      by_cases h0 : k < 2
      · have e0 : decide ((k : Int) < 2) = true := decide_eq_true (by omega)
        have hx0 : raw.length ≤ k := by omega
        clear hex
        go_wp2_with fail
        go_ret
        exact ⟨rfl, hkeep'.out⟩
      · have e0 : decide ((k : Int) < 2) = false := decide_eq_false (by omega)
        have hk2 : 2 ≤ k := by omega
        clear h0
        have hOK := Lib.hid (mkB_ok (m := 6) (by omega) (by omega) (by omega) hk hk8)
        have hlen := Lib.hid (mkB_len (m := 6) hk)
        have hnew := new_yes a' cap' (mkB 6 raw k) wr hr'.out.ints hr'.out.nil0 hOK.out
        rw [hlen.out] at hnew
        have hnew' := Lib.hid hnew
        clear hnew
        have r0 := absZ_nn rounds
        have r1 := absZ_le hb0 hb1
        rcases hex with ⟨d1, d2⟩ | d1
        all_goals
          go_wp2_with fail
          refine hnew'.out.mono ?_
          rintro e w3 ⟨A, B, rfl, hA, k3, hA3, hB3⟩
          have hmk := run_make1 (P := Try.prog) w3 33 4 i4 (.bool false) 1 Try.underlying33 hi4 hz40 hz41 hz42 rfl .i64 .i64 k (by omega) (by omega)
          rw [bcells_replicate] at hmk
          have hT : Tog w (w3.alloc (.cells (bcells (List.replicate k false)) 4)) A B w3.heap.size a' cap' k (mkB 6 raw k) (List.replicate k false) (Arb.start (mkB 6 raw k)) := by
            have hal := (Keeps.refl Nil w3).alloc (.cells (bcells (List.replicate k false)) 4)
            have hAl : A < w3.heap.size := by obtain ⟨_, h, _⟩ := hA; exact lt_of_heap h
            have hBl : B < w3.heap.size := by obtain ⟨_, _, _, h⟩ := hA; exact lt_of_cell (h 0 hOK.out.1)
            have s3 := k3.size
            have s1 := hkeep'.out.size
            refine ⟨⟨hA.keeps hal (fun h => h) (fun h => h), Arb.start_ok hOK.out, rfl, (hkeep'.out.trans k3).trans hal, by omega⟩, (hr'.out.keeps k3 (fun _ _ h => h)).keeps hal (fun _ _ h => h), heap_alloc_new _ _, by omega, by omega, ?_, by omega, by simp⟩
            intro x hx
            have := hr'.out.lt hx
            exact ⟨by omega, by omega⟩
          have hT' := Lib.hid hT
          clear hA k3 hA3 hB3 hT
          go_wp2_with fail
          go_loopw [11] (fun i wx => ∃ (j : Nat) (bs : List Bool), j ≤ k ∧ i = .int .i64 j ∧ Tog w wx A B w3.heap.size a' cap' k (mkB 6 raw k) bs (Arb.start (mkB 6 raw k)) ∧ Hid (∀ x, x < j → gb bs x = true)) (fun i _ => k - (intOf i).toNat)
          case atStart => exact ⟨0, _, Nat.zero_le _, rfl, hT'.out, fun x hx => by omega⟩
          case round =>
            obtain ⟨j, bs, hj, rfl, hT2, hbs⟩ := hrel
            have hbl := hT2.len
            have hT2' := Lib.hid hT2
            by_cases hlt : j < k
            · have hcell : wr.cell? ⟨w3.heap.size, j, none⟩ = some (.bool (gb bs j)) := by rw [cell_of_heap hT2.rdy, bcells_get (by omega)]
              have hfz := frozen_of_heap hT2.rdy j
              have hbl' := Lib.hid hbl
              clear hT2 hbl
              go_wp2_with fail
              go_roundw
              case rel => exact ⟨j + 1, bs.set j true, by omega, by go_num, hT2'.out.set j true, fun x hx => by
                rw [gb_set (by have := hbl'.out; omega)]
                split
                · rfl
                · exact hbs.out x (by omega)⟩
              case measure => simp [intOf]; omega
            · have hall := Lib.hid (fun (x : Nat) (hx : x < k) => hbs.out x (by omega))
              clear hT2 hbl hbs
              go_wp2_with fail
              go_loopw [12] (fun i wx => ∃ (j : Nat) (s : Arb), j ≤ 20 ∧ i = .int .i64 j ∧ Tog w wx A B w3.heap.size a' cap' k (mkB 6 raw k) bs s ∧ Hid (Ph s 0)) (fun i _ => 20 - (intOf i).toNat)
              case atStart => exact ⟨0, _, by omega, rfl, hT2'.out, .inl ⟨rfl, rfl, rfl⟩⟩
              case round =>
                obtain ⟨j3, s3, hj3, rfl, hT3, hP3⟩ := hrel
                have hT3' := Lib.hid hT3
                clear hT3
                by_cases hlt3 : (j3 : Int) < absZ rounds % 20 + 1
                · go_wp2_with (go_at_call 12; refine (abs_any _ _ hb0 hb1).mono ?_; rintro e w' ⟨rfl, rfl⟩)
                  go_loopw [13] (fun i wx => ∃ (j : Nat) (s : Arb), j ≤ k ∧ i = .int .i64 j ∧ Tog w wx A B w3.heap.size a' cap' k (mkB 6 raw k) bs s ∧ Hid (Ph s j)) (fun i _ => k - (intOf i).toNat)
                  case atStart => exact ⟨0, _, by omega, rfl, hT3'.out, hP3⟩
                  case round =>
                    obtain ⟨j4, s4, hj4, rfl, hT4, hP4⟩ := hrel
                    have hT4' := Lib.hid hT4
                    clear hT4
                    by_cases hlt4 : j4 < k
                    · go_wp2_with fail
                      go_loopw [14] (fun i wx => ∃ (j : Nat) (s : Arb), (j : Int) ≤ gi (mkB 6 raw k) j4 ∧ i = .int .i64 j ∧ Tog w wx A B w3.heap.size a' cap' k (mkB 6 raw k) bs s ∧ Hid (Mid s j4 j)) (fun i _ => 7 - (intOf i).toNat)
                      case atStart => exact ⟨0, _, by have := (mkB_rng (m := 6) (raw := raw) (k := k) (j := j4) (by omega) (by rw [hlen.out]; exact hlt4)).1; omega, rfl, hT4'.out, hP4⟩
                      case round =>
                        obtain ⟨j5, s5, hj5, rfl, hT5, hM5⟩ := hrel
                        have hT5' := Lib.hid hT5
                        obtain ⟨ab, ao, ha5, hc5⟩ := hT5.row.ints j4 (by rw [hlen.out]; exact hlt4)
                        obtain ⟨hb50, hb51⟩ := mkB_rng (m := 6) (raw := raw) (k := k) (j := j4) (by omega) (by rw [hlen.out]; exact hlt4)
                        subst ha5
                        clear hT5
                        by_cases hlt5 : (j5 : Int) < gi (mkB 6 raw k) j4
                        · have hsl : s5.bursts.length = k := by rw [hT5'.out.so.bu, hlen.out]
                          have hms := mid_step hT5'.out.so.ok (bs := bs) (q := j4) (k := j5) (by omega) (by rw [hT5'.out.so.bu]; exact hlt5) (fun x hx => hall.out x (by omega)) hM5.out
                          have hnx := next_any A B s5 (some ⟨w3.heap.size, 0, none⟩) k bs _ hT5'.out.so.ok hT5'.out.so.a (BoolsAt.of_heap hT5'.out.rdy)
                          rw [hms.1, hT5'.out.len] at hnx
                          have hnx' := Lib.hid hnx
                          have hms' := Lib.hid hms.2
                          clear hnx hms hsl
                          go_wp2_with fail
                          refine hnx'.out.mono ?_
                          rintro e w5 ⟨rfl, ha6, hk6⟩
                          have hfin := Lib.hid (hT5'.out.next hk6 ha6)
                          clear ha6 hk6
                          go_wp2_with fail
                          go_roundw
                          case rel => exact ⟨j5 + 1, _, by omega, by go_num, hfin.out, hms'⟩
                          case measure => simp [intOf]; omega
                        · have hPe := Lib.hid (mid_end (s := s5) (q := j4) (k := j5) (by rw [hT5'.out.so.bu]; exact hb50) (by rw [hT5'.out.so.bu]; omega) hM5.out)
                          go_wp2_with fail
                          go_roundw
                          case rel => exact ⟨j4 + 1, _, by omega, by go_num, hT5'.out, hPe⟩
                          case measure => simp [intOf]; omega
                    · have hPw := Lib.hid (ph_wrap (s := s4) (by rw [hT4'.out.so.bu, hlen.out]; exact hk2) (by rw [hT4'.out.so.bu, hlen.out, show k = j4 by omega]; exact hP4.out))
                      go_wp2_with fail
                      go_roundw
                      case rel => exact ⟨j3 + 1, _, by omega, by go_num, hT4'.out, hPw⟩
                      case measure => simp [intOf]; omega
                · go_wp2_with (go_at_call 12; refine (abs_any _ _ hb0 hb1).mono ?_; rintro e w' ⟨rfl, rfl⟩)
                  go_ret
                  exact ⟨rfl, hT3'.out.so.k⟩
end Go.Proofs.Ytikofabijdkbjaa
