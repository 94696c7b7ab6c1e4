/- NandDies: the walk (printed by Nd/mkNeN.py) -/
import Derived.Test.YtglpacdenfoicaaNeL
import Derived.Test.YtglpacdenfoicaaNeM
namespace Go.Proofs.Ytglpacdenfoicaa
open Go.RowKit

theorem mod_nat {x : Int} (n : Nat) (hn : 0 < n) (hx : 0 ≤ x) : ∃ q : Nat, q < n ∧ x.tmod (n : Int) = (q : Int) ∧ x % (n : Int) = (q : Int) := by
  obtain ⟨q, hq⟩ := Int.eq_ofNat_of_zero_le (Int.emod_nonneg x (show (n : Int) ≠ 0 by omega))
  have := Int.emod_lt_of_pos x (show (0 : Int) < n by omega)
  exact ⟨q, by omega, by rw [Int.tmod_eq_emod_of_nonneg hx]; exact hq, hq⟩
theorem OpsAt.cells {w : World} {a : Option Addr} {L : List OpN} (h : OpsAt w a L) {k : Nat} (hk : k < L.length) : ∃ o, L[k]? = some o ∧ OpOk w o ∧ ∃ b off, a = some ⟨b, off, none⟩ ∧
  w.cell? ⟨b, off + k * 5, none⟩ = some (.int .i64 o.kind) ∧ w.cell? ⟨b, off + k * 5 + 1, none⟩ = some (.int .i64 o.die) ∧ w.cell? ⟨b, off + k * 5 + 2, none⟩ = some (.int .i64 o.block) ∧
  w.cell? ⟨b, off + k * 5 + 3, none⟩ = some (.int .i64 o.page) ∧ w.cell? ⟨b, off + k * 5 + 4, none⟩ = some (.slice o.a o.data.length o.c) := by
  have he := List.getElem?_eq_getElem hk
  exact ⟨_, he, h k _ he⟩
set_option maxHeartbeats 8000000 in
set_option maxRecDepth 100000 in
theorem dies6 (x0 x1 : Int) (a : Option Addr) (m c : Nat) (L : List OpN) (w : World) (h0 : -9223372036854775808 ≤ x0 ∧ x0 ≤ 9223372036854775807) (h1 : -9223372036854775808 ≤ x1 ∧ x1 ≤ 9223372036854775807) (hL : OpsAt w a L) (hm : L.length = m) (_ : m ≤ 140737488351232) :
    Calls Try.prog 6 #[.int .i64 x0, .int .i64 x1, .slice a m c] w fun e w' => e = .returned (.bool true) ∧ Keeps Nil w w' := by
  have hA0 := Lib.hid (fun w => abs11 x0 w h0.1 h0.2)
  have hA1 := Lib.hid (fun w => abs11 x1 w h1.1 h1.2)
  obtain ⟨die, hd3, e0, e0'⟩ := mod_nat 3 (by decide) (absI_nonneg x0)
  obtain ⟨tm, hm12, e1, e1'⟩ := mod_nat 12 (by decide) (absI_nonneg x1)
  rw [show ((3 : Nat) : Int) = 3 from rfl] at e0 e0'
  rw [show ((12 : Nat) : Int) = 12 from rfl] at e1 e1'
  have hL' := Lib.hid hL
  clear hL h0 h1
  go_enter Try.func6, Try.ntmps6
  go_wp2_with fail
  refine (awake10 w).mono ?_
  rintro e w1 ⟨rfl, k1⟩
  have hNw := Lib.hid (DieS.new (die := die) (tm := tm) (fr := (0, 0)) k1 hd3)
  clear k1
  go_wp2_with fail
  refine (hA0.out w1).mono ?_
  rintro e w2 ⟨rfl, hw2⟩
  rw [← hw2]
  clear hw2 w2
  go_wp2_with fail
  refine (hA1.out w1).mono ?_
  rintro e w2 ⟨rfl, hw2⟩
  rw [← hw2]
  clear hw2 w2
  go_wp2_with fail
  refine (hNw.out).mono ?_
  rintro e w2 ⟨ab, rfl, hO⟩
  have hO' := Lib.hid hO
  clear hO hNw hA0 hA1 e0 e0' e1 e1'
  go_wp2_with fail
  go_loopw [10] (fun i wr => ∃ k ops : Nat, k ≤ 40 ∧ k ≤ m ∧ i = .int .i64 k ∧ Hid (DieR w wr ab die tm ops k)) (fun i _ => m - (intOf i).toNat)
  case atStart => exact ⟨0, 0, by decide, Nat.zero_le _, rfl, hO'⟩
  case round =>
    obtain ⟨k, ops, hk, hkm, rfl, hrel⟩ := hrel
    obtain ⟨A, O, hS, hops⟩ := hrel.out
    have hkp := hS.o.keep
    by_cases hlt : k < m
    · by_cases hl2 : k < 40
      · obtain ⟨o, _, hok, g, off, rfl, c0, c1, c2, _, _⟩ := hL'.out.cells (k := k) (by omega)
        have c0 := hkp.cell c0 (fun h => h)
        have c1 := hkp.cell c1 (fun h => h)
        have c2 := hkp.cell c2 (fun h => h)
        have hA0 := Lib.hid (fun w => abs11 o.kind w hok.kind.1 hok.kind.2)
        have hA1 := Lib.hid (fun w => abs11 o.die w hok.die.1 hok.die.2)
        have hA2 := Lib.hid (fun w => abs11 o.block w hok.block.1 hok.block.2)
        obtain ⟨q, hq3, e0, e0'⟩ := mod_nat 3 (by decide) (absI_nonneg o.kind)
        obtain ⟨d, hd, e1, e1'⟩ := mod_nat 3 (by decide) (absI_nonneg o.die)
        obtain ⟨b, hb, e2, e2'⟩ := mod_nat 2 (by decide) (absI_nonneg o.block)
        rw [show ((3 : Nat) : Int) = 3 from rfl] at e0 e0' e1 e1'
        rw [show ((2 : Nat) : Int) = 2 from rfl] at e2 e2'
        have hS' := Lib.hid hS
        obtain ⟨z, hz⟩ : ∃ z, (A.B d b).next = z := ⟨_, rfl⟩
        have hzl := hS.le d b
        rw [hz] at hzl
        have hNx := Lib.hid (hS.next hd hb)
        rw [hz] at hNx
        have hOp := Lib.hid hS.opsC
        rw [hops] at hOp
        obtain ⟨cd, hcd⟩ : ∃ cd, dcode die tm d ops = cd := ⟨_, rfl⟩
        have hE := Lib.hid (hS.erase (by omega) hd hb)
        have hR := Lib.hid (hS.read (by omega) hd hb)
        have hP := Lib.hid (fun (p : Nat) (hp : p < 3) (hzp : (A.B d b).next = (p : Int)) => hS.prog (fr := (0, 0)) (by omega) hd hb hp hzp)
        rw [hops, hcd] at hE hR hP
        have hz' := Lib.hid hz
        have hcd' := Lib.hid hcd
        have hk64 : ops ≤ 40 := by omega
        have hway : (tm ≤ ops ∧ d = die ∧ cd = 41) ∨ (ops < tm ∧ d = die ∧ cd = 0) ∨ (((d == die) = false ∧ ¬ ((d : Int) = (die : Int))) ∧ cd = 0) := by
          rw [← hcd]
          unfold dcode
          by_cases w1 : d = die
          · by_cases w2 : tm ≤ ops
            · left; exact ⟨w2, w1, by rw [if_pos ⟨w2, w1⟩]⟩
            · right; left; exact ⟨by omega, w1, by rw [if_neg (fun h => w2 h.1)]⟩
          · right; right; exact ⟨⟨by simpa using w1, by omega⟩, by rw [if_neg (fun h => w1 h.2)]⟩
        clear hS hkp hok hops hrel hz hcd
        go_wp2_with fail
        refine (hA1.out wr).mono ?_
        rintro e w3 ⟨rfl, hw3⟩
        rw [← hw3]
        clear hw3 w3
        go_wp2_with fail
        refine (hA2.out wr).mono ?_
        rintro e w3 ⟨rfl, hw3⟩
        rw [← hw3]
        clear hw3 w3
        go_wp2_with fail
        refine (hOp.out).mono ?_
        rintro e w3 ⟨rfl, hw3⟩
        rw [hw3]
        clear hw3 w3
        go_wp2_with fail
        refine (hA0.out wr).mono ?_
        rintro e w3 ⟨rfl, hw3⟩
        rw [← hw3]
        clear hw3 w3
        clear hA0 hA1 hA2 hOp
        rcases (show q = 0 ∨ q = 1 ∨ q = 2 by omega) with rfl | rfl | rfl
        · go_wp2_with fail
          refine (hNx.out).mono ?_
          rintro e w3 ⟨rfl, hw3⟩
          rw [hw3]
          clear hw3 w3
          rcases (show z = -1 ∨ z = 3 ∨ (0 ≤ z ∧ z ≤ 2) by omega) with rfl | rfl | ⟨hz0, hz2⟩
          · go_wp2_with fail
            refine (hE.out).mono ?_
            rintro e w4 ⟨rfl, hO4⟩
            obtain ⟨A4, O4, hS4, hops4⟩ := hO4
            have hO4' := Lib.hid (show DieR w w4 ab die tm (ops + 1) (k + 1) from ⟨A4, O4, hS4, hops4⟩)
            have hOp4 := Lib.hid hS4.opsC
            rw [hops4] at hOp4
            clear hS4 hops4 hE hR hP hNx
            rcases hway with ⟨w1, rfl, rfl⟩ | ⟨w1, rfl, rfl⟩ | ⟨⟨w1, w2⟩, rfl⟩
            all_goals
              go_wp2_with fail
              refine (hOp4.out).mono ?_
              rintro e w5 ⟨rfl, h5⟩
              rw [h5, show ((ops + 1 : Nat) : Int) = (ops : Int) + 1 from by omega]
              clear h5 w5
              go_wp2_with fail
              go_roundw
              case rel => exact ⟨k + 1, ops + 1, by omega, by omega, by go_num, hO4'⟩
              case measure => simp [intOf]; omega
          · go_wp2_with fail
            refine (hE.out).mono ?_
            rintro e w4 ⟨rfl, hO4⟩
            obtain ⟨A4, O4, hS4, hops4⟩ := hO4
            have hO4' := Lib.hid (show DieR w w4 ab die tm (ops + 1) (k + 1) from ⟨A4, O4, hS4, hops4⟩)
            have hOp4 := Lib.hid hS4.opsC
            rw [hops4] at hOp4
            clear hS4 hops4 hE hR hP hNx
            rcases hway with ⟨w1, rfl, rfl⟩ | ⟨w1, rfl, rfl⟩ | ⟨⟨w1, w2⟩, rfl⟩
            all_goals
              go_wp2_with fail
              refine (hOp4.out).mono ?_
              rintro e w5 ⟨rfl, h5⟩
              rw [h5, show ((ops + 1 : Nat) : Int) = (ops : Int) + 1 from by omega]
              clear h5 w5
              go_wp2_with fail
              go_roundw
              case rel => exact ⟨k + 1, ops + 1, by omega, by omega, by go_num, hO4'⟩
              case measure => simp [intOf]; omega
          · obtain ⟨p, rfl⟩ := Int.eq_ofNat_of_zero_le hz0
            have hp3 : p < 3 := by omega
            have hPp := Lib.hid (hP.out p hp3 hz'.out)
            go_wp2_with fail
            refine (hPp.out).mono ?_
            rintro e w4 ⟨rfl, hO4⟩
            clear hPp
            obtain ⟨A4, O4, hS4, hops4⟩ := hO4
            have hO4' := Lib.hid (show DieR w w4 ab die tm (ops + 1) (k + 1) from ⟨A4, O4, hS4, hops4⟩)
            have hOp4 := Lib.hid hS4.opsC
            rw [hops4] at hOp4
            clear hS4 hops4 hE hR hP hNx
            rcases hway with ⟨w1, rfl, rfl⟩ | ⟨w1, rfl, rfl⟩ | ⟨⟨w1, w2⟩, rfl⟩
            all_goals
              go_wp2_with fail
              refine (hOp4.out).mono ?_
              rintro e w5 ⟨rfl, h5⟩
              rw [h5, show ((ops + 1 : Nat) : Int) = (ops : Int) + 1 from by omega]
              clear h5 w5
              go_wp2_with fail
              go_roundw
              case rel => exact ⟨k + 1, ops + 1, by omega, by omega, by go_num, hO4'⟩
              case measure => simp [intOf]; omega
        · go_wp2_with fail
          refine (hE.out).mono ?_
          rintro e w4 ⟨rfl, hO4⟩
          obtain ⟨A4, O4, hS4, hops4⟩ := hO4
          have hO4' := Lib.hid (show DieR w w4 ab die tm (ops + 1) (k + 1) from ⟨A4, O4, hS4, hops4⟩)
          have hOp4 := Lib.hid hS4.opsC
          rw [hops4] at hOp4
          clear hS4 hops4 hE hR hP hNx
          rcases hway with ⟨w1, rfl, rfl⟩ | ⟨w1, rfl, rfl⟩ | ⟨⟨w1, w2⟩, rfl⟩
          all_goals
            go_wp2_with fail
            refine (hOp4.out).mono ?_
            rintro e w5 ⟨rfl, h5⟩
            rw [h5, show ((ops + 1 : Nat) : Int) = (ops : Int) + 1 from by omega]
            clear h5 w5
            go_wp2_with fail
            go_roundw
            case rel => exact ⟨k + 1, ops + 1, by omega, by omega, by go_num, hO4'⟩
            case measure => simp [intOf]; omega
        · go_wp2_with fail
          refine (hR.out).mono ?_
          rintro e w4 ⟨v4, rfl, hO4⟩
          obtain ⟨A4, O4, hS4, hops4⟩ := hO4
          have hO4' := Lib.hid (show DieR w w4 ab die tm (ops + 1) (k + 1) from ⟨A4, O4, hS4, hops4⟩)
          have hOp4 := Lib.hid hS4.opsC
          rw [hops4] at hOp4
          clear hS4 hops4 hE hR hP hNx
          rcases hway with ⟨w1, rfl, rfl⟩ | ⟨w1, rfl, rfl⟩ | ⟨⟨w1, w2⟩, rfl⟩
          all_goals
            go_wp2_with fail
            refine (hOp4.out).mono ?_
            rintro e w5 ⟨rfl, h5⟩
            rw [h5, show ((ops + 1 : Nat) : Int) = (ops : Int) + 1 from by omega]
            clear h5 w5
            go_wp2_with fail
            go_roundw
            case rel => exact ⟨k + 1, ops + 1, by omega, by omega, by go_num, hO4'⟩
            case measure => simp [intOf]; omega
      · go_wp2_with fail
        go_ret
        exact ⟨rfl, hkp⟩
    · go_wp2_with fail
      go_ret
      exact ⟨rfl, hkp⟩
end Go.Proofs.Ytglpacdenfoicaa
