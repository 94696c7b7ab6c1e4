/- NandCuts: the walk -/
import Derived.Test.YtglpacdenfoicaaNeS
import Derived.Test.YtglpacdenfoicaaNeO
namespace Go.Proofs.Ytglpacdenfoicaa
open Go.RowKit

set_option maxHeartbeats 8000000 in
set_option maxRecDepth 100000 in
theorem cuts5 (xa : Option Addr) (n xc : Nat) (l : List Int) (x1 x2 : Int) (w : World) (hl : l.length = n) (h1 : -9223372036854775808 ≤ x1 ∧ x1 ≤ 9223372036854775807) (h2 : -9223372036854775808 ≤ x2 ∧ x2 ≤ 9223372036854775807) (hx : NumsAt .u8 w xa l) (hc : n ≤ xc) (_ : n ≤ 140737488351232) :
    Calls Try.prog 5 #[.slice xa n xc, .int .i64 x1, .int .i64 x2] w fun e w' => e = .returned (.bool true) ∧ Keeps Nil w w' := by
  have hx' := Lib.hid hx
  have hl' := Lib.hid hl
  have hcl : l.length ≤ xc := by omega
  have hcl' := Lib.hid hcl
  by_cases hn0 : n = 0
  · clear hx hl hcl
    subst hn0
    go_enter Try.func5, Try.ntmps5
    go_wp2_with fail
    refine (awake10 w).mono ?_
    rintro e w1 ⟨rfl, k1⟩
    have k1' := Lib.hid k1
    clear k1
    go_wp2_with fail
    go_ret
    exact ⟨rfl, k1'.out⟩
  · by_cases hn3 : 300 < n
    · have hne : ((n : Int) == 0) = false := by simpa using hn0
      have hn3' : (300 : Int) < (n : Int) := by omega
      clear hx hl hcl
      go_enter Try.func5, Try.ntmps5
      go_wp2_with fail
      refine (awake10 w).mono ?_
      rintro e w1 ⟨rfl, k1⟩
      have k1' := Lib.hid k1
      clear k1
      go_wp2_with fail
      go_ret
      exact ⟨rfl, k1'.out⟩
    · have hlt' := Lib.hid (hx.lt (by omega))
      have hne : ((n : Int) == 0) = false := by simpa using hn0
      have hn3' : decide ((300 : Int) < (n : Int)) = false := by rw [decide_eq_false_iff_not]; omega
      have hA1 := Lib.hid (fun w => abs11 x1 w h1.1 h1.2)
      have hA2 := Lib.hid (fun w => abs11 x2 w h2.1 h2.2)
      obtain ⟨p, hp, e1, e1'⟩ := mod_nat (2 * n) (by omega) (absI_nonneg x1)
      obtain ⟨tm, ht5, e2, e2'⟩ := mod_nat 5 (by decide) (absI_nonneg x2)
      rw [show ((2 * n : Nat) : Int) = 2 * (n : Int) from by omega] at e1 e1'
      rw [show ((5 : Nat) : Int) = 5 from rfl] at e2 e2'
      have h2n : ¬ (2 * (n : Int) = 0) := by omega
      clear hx hl hcl h1 h2
      go_enter Try.func5, Try.ntmps5
      go_wp2_with fail
      refine (awake10 w).mono ?_
      rintro e w1 ⟨rfl, k1⟩
      have hNw := Lib.hid (CutA.new (n := n) (tm := tm) (p := p) (fr := (0, 0)) k1 (by omega) (by omega))
      clear k1
      go_wp2_with fail
      refine (hA1.out w1).mono ?_
      rintro e w2 ⟨rfl, hw2⟩
      rw [← hw2]
      clear hw2 w2
      go_wp2_with fail
      refine (hA2.out w1).mono ?_
      rintro e w2 ⟨rfl, hw2⟩
      rw [← hw2]
      clear hw2 w2
      go_wp2_with fail
      refine (hNw.out).mono ?_
      rintro e w2 ⟨ab, rfl, hO⟩
      have hO' := Lib.hid hO
      clear hO hNw hA1 e1 e1'
      go_wp2_with fail
      go_loopw [11] (fun i wr => ∃ k : Nat, k ≤ tm ∧ i = .int .i64 k ∧ Hid (CutA w wr ab n tm p k)) (fun i _ => tm - (intOf i).toNat)
      case atStart => exact ⟨0, Nat.zero_le _, rfl, hO'⟩
      case round =>
        obtain ⟨k, hk, rfl, hrel⟩ := hrel
        by_cases hlt : k < tm
        · have hR := Lib.hid (hrel.out.read hlt (by omega))
          go_wp2_with fail
          refine (hA2.out wr).mono ?_
          rintro e w3 ⟨rfl, hw3⟩
          rw [← hw3]
          clear hw3 w3
          go_wp2_with fail
          refine (hR.out).mono ?_
          rintro e w4 ⟨v4, rfl, hO4⟩
          have hO4' := Lib.hid hO4
          clear hO4 hR
          go_wp2_with fail
          go_roundw
          case rel => exact ⟨k + 1, by omega, by go_num, hO4'⟩
          case measure => simp [intOf]; omega
        · have hkt : k = tm := by omega
          have hrel2 := hrel.out
          rw [hkt] at hrel2
          have hP := hrel2.prog (by omega) hx'.out hlt'.out hl'.out hcl'.out
          rw [hl'.out] at hP
          have hP' := Lib.hid hP
          clear hP hrel2 hkt
          go_wp2_with fail
          refine (hA2.out wr).mono ?_
          rintro e w3 ⟨rfl, hw3⟩
          rw [← hw3]
          clear hw3 w3
          go_wp2_with fail
          refine (hP'.out).mono ?_
          rintro e w3 ⟨rfl, hB3⟩
          have hB3' := Lib.hid hB3
          clear hB3 hP' hrel hlt hk
          go_wp2_with fail
          refine (hB3'.out.rdOff (by omega)).mono ?_
          rintro e w4 ⟨rfl, hB4⟩
          have hP := hB4.pgOff (by omega) 1 hx'.out hlt'.out hcl'.out
          rw [hl'.out] at hP
          have hP' := Lib.hid hP
          clear hB4 hB3' hP
          go_wp2_with fail
          refine (hP'.out).mono ?_
          rintro e w5 ⟨rfl, hB5⟩
          have hB5' := Lib.hid hB5
          clear hB5 hP'
          go_wp2_with fail
          refine (hB5'.out.erOff (by omega)).mono ?_
          rintro e w6 ⟨rfl, hB6⟩
          have hB6' := Lib.hid hB6
          clear hB6 hB5'
          go_wp2_with fail
          refine (hB6'.out.opsC).mono ?_
          rintro e w7 ⟨rfl, hw7⟩
          rw [hw7, show ((tm + 1 : Nat) : Int) = (tm : Int) + 1 from by omega]
          clear hw7 w7
          go_wp2_with fail
          refine (hB6'.out.on).mono ?_
          rintro e w7 ⟨rfl, hB7⟩
          have hB7' := Lib.hid hB7
          clear hB7 hB6'
          go_wp2_with fail
          refine (hB7'.out.rd (by omega)).mono ?_
          rintro e w8 ⟨g, c8, rfl, hr8, hB8⟩
          rw [cutAt_len' hl'.out] at *
          have hB8' := Lib.hid hB8
          have hr8' := Lib.hid hr8
          clear hB8 hB7' hr8
          go_wp2_with fail
          refine (hA2.out w8).mono ?_
          rintro e w9 ⟨rfl, hw9⟩
          rw [← hw9]
          clear hw9 w9
          go_wp2_with fail
          clear hA2 e2 e2' hne hn3' h2n
          go_loopw [22] (fun i wz => ∃ j : Nat, j ≤ n ∧ i = .int .i64 j ∧ Keeps Nil w8 wz) (fun i _ => n - (intOf i).toNat)
          case atStart => exact ⟨0, Nat.zero_le _, rfl, Keeps.refl _ _⟩
          case round =>
            obtain ⟨j, hj, rfl, hkp⟩ := hrel
            by_cases hlt : j < n
            · obtain ⟨y, hy⟩ : ∃ y, gi l j = y := ⟨_, rfl⟩
              have hcg := cutAt_get (p := p) hl'.out hlt
              rw [hy] at hcg
              obtain ⟨_, _, rfl, hc1⟩ := hx'.out j (by have := hl'.out; omega)
              have b1 := (hB8'.out.keep.trans hkp).cell hc1 (fun h => h)
              rw [hy] at b1
              obtain ⟨_, _, hgg, hc2⟩ := hr8'.out.nums j (by rw [cutAt_len' hl'.out]; exact hlt)
              cases hgg
              have b2 := hkp.cell hc2 (fun h => h)
              rw [Nat.zero_add, hcg] at b2
              have hkp' := Lib.hid hkp
              clear hc1 hc2 hcg hkp hy
              by_cases hjp : j < p
              · rw [if_pos hjp] at b2
                have t1 : (j : Int) < (p : Int) := by omega
                have t2 : decide ((p : Int) ≤ (j : Int)) = false := by rw [decide_eq_false_iff_not]; omega
                have t3 : decide (j < p) = true := by simpa using hjp
                have t4 : decide (p ≤ j) = false := by rw [decide_eq_false_iff_not]; omega
                go_wp2_with fail
                go_quiet (fail)
                go_wp2_with fail
                go_roundw
                case rel => exact ⟨j + 1, by omega, by go_num, hkp'.out.drewN _⟩
                case measure => simp [intOf]; omega
              · rw [if_neg hjp] at b2
                have t1 : (p : Int) ≤ (j : Int) := by omega
                have t2 : decide ((j : Int) < (p : Int)) = false := by rw [decide_eq_false_iff_not]; omega
                have t3 : decide (j < p) = false := by simpa using hjp
                have t4 : decide (p ≤ j) = true := by simpa using hjp
                go_wp2_with fail
                go_quiet (fail)
                go_wp2_with fail
                go_roundw
                case rel => exact ⟨j + 1, by omega, by go_num, hkp'.out.drewN _⟩
                case measure => simp [intOf]; omega
            · have hB9 := hB8'.out.nil hkp
              have hNx := Lib.hid hB9.nextC
              have hP := hB9.prog (by omega) (by omega) hx'.out hlt'.out hl'.out hcl'.out
              rw [hl'.out] at hP
              have hP' := Lib.hid hP
              clear hP hB9 hkp
              go_wp2_with fail
              refine (hNx.out).mono ?_
              rintro e w9 ⟨rfl, hw9⟩
              rw [hw9]
              clear hw9 w9
              go_wp2_with fail
              refine (hP'.out).mono ?_
              rintro e w9 ⟨rfl, hk9⟩
              have hk9' := Lib.hid hk9
              clear hk9
              go_wp2_with fail
              go_ret
              exact ⟨rfl, hk9'.out⟩
end Go.Proofs.Ytglpacdenfoicaa
