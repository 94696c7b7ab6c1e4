/- NandCounts: the walk (printed by Nd/mkNeU.py) -/
import Derived.Test.YtglpacdenfoicaaNeS
import Derived.Test.YtglpacdenfoicaaNeT
namespace Go.Proofs.Ytglpacdenfoicaa
open Go.RowKit

theorem cnt_fits : FitsI (⟨2, 2, 3, 2⟩ : Sh).dies (⟨2, 2, 3, 2⟩ : Sh).blocks (⟨2, 2, 3, 2⟩ : Sh).pages (⟨2, 2, 3, 2⟩ : Sh).bytes := ⟨by decide, by decide, by decide, by decide, by decide⟩
theorem FtsAt.nil {w w' : World} {fa : Option Addr} {LA : List Fx} (h : FtsAt w fa LA) (hk : Keeps Nil w w') : FtsAt w' fa LA :=
  ⟨fun k x hx => by
    obtain ⟨g, off, h1, h2⟩ := h.cell k x hx
    exact ⟨g, off, h1, fun j v hj => hk.cell (h2 j v hj) (fun h => h)⟩, fun x hx => ⟨(h.bits x hx).1.keeps hk (fun _ _ h => h), (h.bits x hx).2⟩, h.wf⟩
set_option maxHeartbeats 8000000 in
set_option maxRecDepth 100000 in
/-- New refuses the faults -/
theorem counts_bad (fa a : Option Addr) (m0 fc m sc : Nat) (w : World) (hN : ∀ w', Keeps Nil w w' → Calls Try.prog 12 #[.agg #[.int .i64 2, .int .i64 2, .int .i64 3, .int .i64 2], .slice fa m0 fc] w' fun e w'' => e = .returned (.tuple #[.pointer none, .int .i64 1]) ∧ Keeps Nil w' w'') :
    Calls Try.prog 8 #[.slice fa m0 fc, .slice a m sc] w fun e w' => e = .returned (.bool true) ∧ Keeps Nil w w' := by
  have hN' := Lib.hid hN
  clear hN
  go_enter Try.func8, Try.ntmps8
  go_wp2_with fail
  refine (awake10 w).mono ?_
  rintro e w1 ⟨rfl, k1⟩
  have k2 := k1.alloc (.cells #[.int .i64 2, .int .i64 2, .int .i64 3, .int .i64 2] 31)
  have hNw := Lib.hid (hN'.out _ k2)
  have k2' := Lib.hid k2
  clear k1 k2 hN'
  go_wp2_with fail
  refine (hNw.out).mono ?_
  rintro e w2 ⟨rfl, k3⟩
  have k3' := Lib.hid k3
  clear k3
  go_wp2_with fail
  go_ret
  exact ⟨rfl, k2'.out.trans k3'.out⟩
set_option maxHeartbeats 16000000 in
set_option maxRecDepth 100000 in
theorem counts_ok (fa a : Option Addr) (m0 fc m sc : Nat) (LA : List Fx) (L : List OpN) (w : World) (hF : FtsAt w fa LA) (hF0 : LA.length = m0) (hF2 : m0 ≤ 2000) (hall : (LA.map (·.f)).all (·.may ⟨2, 2, 3, 2⟩) = true) (hL : OpsAt w a L) (hm : L.length = m) (_ : m ≤ 140737488351232) :
    Calls Try.prog 8 #[.slice fa m0 fc, .slice a m sc] w fun e w' => e = .returned (.bool true) ∧ Keeps Nil w w' := by
  have hL' := Lib.hid hL
  have hF' := Lib.hid hF
  have hall' := Lib.hid hall
  clear hL hF hall
  subst hF0
  go_enter Try.func8, Try.ntmps8
  go_wp2_with fail
  refine (awake10 w).mono ?_
  rintro e w1 ⟨rfl, k1⟩
  have k2 := k1.alloc (.cells #[.int .i64 2, .int .i64 2, .int .i64 3, .int .i64 2] 31)
  have hNw := Lib.hid (newI_ok (S := ⟨2, 2, 3, 2⟩) (fc := fc) (w0 := w) k2 cnt_fits (hF'.out.nil k2) hF2 hall'.out)
  clear k1 k2 hF' hall'
  go_wp2_with fail
  refine (hNw.out).mono ?_
  rintro e w2 ⟨ab, O, rfl, hO, -, -⟩
  obtain ⟨wb, hwb⟩ : ∃ wb, w2.heap.size = wb := ⟨_, rfl⟩
  have hR0 : CntR w (w2.alloc (.cells #[.int .i64 0, .int .i64 0, .int .i64 0, .int .i64 0, .int .i64 0, .int .i64 0] 40)) ab wb 0 := by
    refine ⟨_, O, 0, 0, 0, 0, 0, ⟨hO.nil ((Keeps.refl Nil w2).alloc _), rfl, rfl, by rw [← hwb]; exact heap_alloc_new w2 _, fun h => ?_, by rw [← hwb]; exact hO.keep.size⟩, rfl, rfl, rfl, rfl, rfl⟩
    have := hO.lt h
    omega
  have hR0' := Lib.hid hR0
  clear hO hNw hR0
  go_wp2_with fail
  go_loopw [10] (fun i wr => ∃ k : Nat, k ≤ 80 ∧ k ≤ m ∧ i = .int .i64 k ∧ Hid (CntR w wr ab wb k)) (fun i _ => m - (intOf i).toNat)
  case atStart => exact ⟨0, by decide, Nat.zero_le _, rfl, hR0'⟩
  case round =>
    clear hR0' hwb
    obtain ⟨k, hk, hkm, rfl, hrel⟩ := hrel
    obtain ⟨A, O, r, p, e, f, c, hS, hE⟩ := hrel.out
    have hkp := hS.keep
    by_cases hlt : k < m
    · by_cases hl2 : k < 80
      · obtain ⟨o, _, hok, g, off, rfl, c0, c1, c2, c3, c4⟩ := hL'.out.cells (k := k) (by omega)
        have c0 := hkp.cell c0 (fun h => h)
        have c1 := hkp.cell c1 (fun h => h)
        have c2 := hkp.cell c2 (fun h => h)
        have c3 := hkp.cell c3 (fun h => h)
        have c4 := hkp.cell c4 (fun h => h)
        have hA0 := Lib.hid (fun w => abs11 o.kind w hok.kind.1 hok.kind.2)
        have hA1 := Lib.hid (fun w => abs11 o.die w hok.die.1 hok.die.2)
        have hA2 := Lib.hid (fun w => abs11 o.block w hok.block.1 hok.block.2)
        obtain ⟨q, hq4, e0, e0'⟩ := mod_nat 4 (by decide) (absI_nonneg o.kind)
        obtain ⟨d, hd, e1, e1'⟩ := mod_nat 2 (by decide) (absI_nonneg o.die)
        obtain ⟨b, hb, e2, e2'⟩ := mod_nat 2 (by decide) (absI_nonneg o.block)
        rw [show ((4 : Nat) : Int) = 4 from rfl] at e0 e0'
        rw [show ((2 : Nat) : Int) = 2 from rfl] at e1 e1' e2 e2'
        obtain ⟨wo, hwo⟩ : ∃ wo, wr.alloc (.cells #[.int .i64 o.kind, .int .i64 o.die, .int .i64 o.block, .int .i64 o.page, .slice o.a o.data.length o.c] 46) = wo := ⟨_, rfl⟩
        have ko := (Keeps.refl Nil wr).alloc (.cells #[.int .i64 o.kind, .int .i64 o.die, .int .i64 o.block, .int .i64 o.page, .slice o.a o.data.length o.c] 46)
        have hob := heap_alloc_new wr (.cells #[.int .i64 o.kind, .int .i64 o.die, .int .i64 o.block, .int .i64 o.page, .slice o.a o.data.length o.c] 46)
        rw [hwo] at ko hob
        obtain ⟨ob, hobs⟩ : ∃ ob, wr.heap.size = ob := ⟨_, rfl⟩
        rw [hobs] at hob
        have q0 := cell_of_heap hob 0
        have q1 := cell_of_heap hob 1
        have q2 := cell_of_heap hob 2
        simp only [List.getElem?_toArray, List.getElem?_cons_zero, List.getElem?_cons_succ] at q0 q1 q2
        have hS := hS.nil ko
        have hwo' := Lib.hid hwo
        have hle := hS.le hE
        obtain ⟨z, hz⟩ : ∃ z, (A.B d b).next = z := ⟨_, rfl⟩
        have hzl := hS.nextLe d b
        rw [hz] at hzl
        have hNx := Lib.hid (hS.next hd hb)
        rw [hz] at hNx
        have hPw := Lib.hid (powerI_any hS.o)
        have hS' := Lib.hid hS
        have hE' := Lib.hid hE
        have hz' := Lib.hid hz
        have hk64 : k < 80 := hl2
        clear hS hE hkp hok hob hrel hz hwo ko
        go_upto_region 13 with (fail)
        rw [show wr.alloc (.cells #[.int .i64 o.kind, .int .i64 o.die, .int .i64 o.block, .int .i64 o.page, .slice o.a o.data.length o.c] 46) = wo from hwo'.out]
        clear c0 c1 c2 c3 c4 hobs
        go_wp2_with fail
        refine (hA1.out wo).mono ?_
        rintro e w3 ⟨rfl, hw3⟩
        rw [← hw3]
        clear hw3 w3
        go_wp2_with fail
        refine (hA2.out wo).mono ?_
        rintro e w3 ⟨rfl, hw3⟩
        rw [← hw3]
        clear hw3 w3
        obtain ⟨off', hoff⟩ : ∃ b, A.off = b := ⟨_, rfl⟩
        rw [hoff] at hPw
        have hoff' := Lib.hid hoff
        clear hoff
        go_wp2_with fail
        refine (hPw.out).mono ?_
        rintro e w3 ⟨rfl, hw3⟩
        rw [hw3]
        clear hw3 w3 hPw
        cases off'
        · go_wp2_with fail
          refine (hA0.out wo).mono ?_
          rintro e w3 ⟨rfl, hw3⟩
          rw [← hw3]
          clear hw3 w3 hA0 hA1 hA2
          rcases (show q = 0 ∨ q = 1 ∨ q = 2 ∨ q = 3 by omega) with rfl | rfl | rfl | rfl
          · go_wp2_with fail
            refine (hNx.out).mono ?_
            rintro e w3 ⟨rfl, hw3⟩
            rw [hw3]
            clear hw3 w3 hNx
            rcases (show z = -1 ∨ z = 3 ∨ (0 ≤ z ∧ z ≤ 2) by omega) with rfl | rfl | ⟨hz0, hz2⟩
            · have hD := Lib.hid (show CntR w wo ab wb (k + 1) from CntR.up ⟨A, O, r, p, e, f, c, hS'.out, hE'.out⟩)
              clear hS' hE'
              go_wp2_with fail
              go_roundw
              case rel => exact ⟨k + 1, by omega, by omega, by go_num, hD⟩
              case measure => simp [intOf]; omega
            · have hD := Lib.hid (show CntR w wo ab wb (k + 1) from CntR.up ⟨A, O, r, p, e, f, c, hS'.out, hE'.out⟩)
              clear hS' hE'
              go_wp2_with fail
              go_roundw
              case rel => exact ⟨k + 1, by omega, by omega, by go_num, hD⟩
              case measure => simp [intOf]; omega
            · obtain ⟨y, rfl⟩ := Int.eq_ofNat_of_zero_le hz0
              have hy3 : y < 3 := by omega
              have hOp := Lib.hid (hS'.out.progOn (fr := (0, 0)) (by omega) hoff'.out hd hb hy3 hz'.out)
              go_wp2_with fail
              refine (hOp.out).mono ?_
              rintro ev w4 ⟨cd, rfl, hO⟩
              obtain ⟨A4, O4, hS4, hO4⟩ := hO
              have hD := Lib.hid (fun W hk hw => CntO.done (w' := W) hE'.out ⟨A4, O4, hS4, hO4⟩ hk hw)
              have hw4 := hS4.want
              have v0 := cell_of_heap hw4 0
              have v1 := cell_of_heap hw4 1
              have v2 := cell_of_heap hw4 2
              have v4 := cell_of_heap hw4 4
              have v5 := cell_of_heap hw4 5
              have z0 := frozen_of_heap hw4 0
              have z1 := frozen_of_heap hw4 1
              have z2 := frozen_of_heap hw4 2
              have z4 := frozen_of_heap hw4 4
              have z5 := frozen_of_heap hw4 5
              simp only [cntCells, List.getElem?_toArray, List.getElem?_cons_zero, List.getElem?_cons_succ] at v0 v1 v2 v4 v5
              have hw4' := Lib.hid hw4
              have hcode := hO4.code
              clear hS' hE' hS4 hO4 hw4 hOp
              rcases hcode with rfl | rfl | rfl | rfl
              all_goals
                go_wp2_with fail
                go_roundw
                case rel => exact ⟨k + 1, by omega, by omega, by go_num, Lib.hid (hD.out _ (by first | exact ((Keeps.refl (· = wb) w4).setCell (.inl rfl) _).setCell (.inl rfl) _ | exact (Keeps.refl (· = wb) w4).setCell (.inl rfl) _) (by first | (rw [heap_setCell_same (heap_setCell_same hw4'.out _ _)]; simp [cntCells]) | (rw [heap_setCell_same hw4'.out]; simp [cntCells])))⟩
                case measure => simp [intOf]; omega
          · have hOp := Lib.hid (hS'.out.eraseOn (by omega) hoff'.out hd hb)
            go_wp2_with fail
            refine (hOp.out).mono ?_
            rintro ev w4 ⟨cd, rfl, hO⟩
            obtain ⟨A4, O4, hS4, hO4⟩ := hO
            have hD := Lib.hid (fun W hk hw => CntO.done (w' := W) hE'.out ⟨A4, O4, hS4, hO4⟩ hk hw)
            have hw4 := hS4.want
            have v0 := cell_of_heap hw4 0
            have v1 := cell_of_heap hw4 1
            have v2 := cell_of_heap hw4 2
            have v4 := cell_of_heap hw4 4
            have v5 := cell_of_heap hw4 5
            have z0 := frozen_of_heap hw4 0
            have z1 := frozen_of_heap hw4 1
            have z2 := frozen_of_heap hw4 2
            have z4 := frozen_of_heap hw4 4
            have z5 := frozen_of_heap hw4 5
            simp only [cntCells, List.getElem?_toArray, List.getElem?_cons_zero, List.getElem?_cons_succ] at v0 v1 v2 v4 v5
            have hw4' := Lib.hid hw4
            have hcode := hO4.code
            clear hS' hE' hS4 hO4 hw4 hOp
            rcases hcode with rfl | rfl | rfl | rfl
            all_goals
              go_wp2_with fail
              go_roundw
              case rel => exact ⟨k + 1, by omega, by omega, by go_num, Lib.hid (hD.out _ (by first | exact ((Keeps.refl (· = wb) w4).setCell (.inl rfl) _).setCell (.inl rfl) _ | exact (Keeps.refl (· = wb) w4).setCell (.inl rfl) _) (by first | (rw [heap_setCell_same (heap_setCell_same hw4'.out _ _)]; simp [cntCells]) | (rw [heap_setCell_same hw4'.out]; simp [cntCells])))⟩
              case measure => simp [intOf]; omega
          · have hOp := Lib.hid (hS'.out.readOn (by omega) hoff'.out hd hb)
            go_wp2_with fail
            refine (hOp.out).mono ?_
            rintro ev w4 ⟨v4x, cd, rfl, hO⟩
            obtain ⟨A4, O4, hS4, hO4⟩ := hO
            have hD := Lib.hid (fun W hk hw => CntO.done (w' := W) hE'.out ⟨A4, O4, hS4, hO4⟩ hk hw)
            have hw4 := hS4.want
            have v0 := cell_of_heap hw4 0
            have v1 := cell_of_heap hw4 1
            have v2 := cell_of_heap hw4 2
            have v4 := cell_of_heap hw4 4
            have v5 := cell_of_heap hw4 5
            have z0 := frozen_of_heap hw4 0
            have z1 := frozen_of_heap hw4 1
            have z2 := frozen_of_heap hw4 2
            have z4 := frozen_of_heap hw4 4
            have z5 := frozen_of_heap hw4 5
            simp only [cntCells, List.getElem?_toArray, List.getElem?_cons_zero, List.getElem?_cons_succ] at v0 v1 v2 v4 v5
            have hw4' := Lib.hid hw4
            have hcode := hO4.code
            clear hS' hE' hS4 hO4 hw4 hOp
            rcases hcode with rfl | rfl | rfl | rfl
            all_goals
              go_wp2_with fail
              go_roundw
              case rel => exact ⟨k + 1, by omega, by omega, by go_num, Lib.hid (hD.out _ (by first | exact ((Keeps.refl (· = wb) w4).setCell (.inl rfl) _).setCell (.inl rfl) _ | exact (Keeps.refl (· = wb) w4).setCell (.inl rfl) _) (by first | (rw [heap_setCell_same (heap_setCell_same hw4'.out _ _)]; simp [cntCells]) | (rw [heap_setCell_same hw4'.out]; simp [cntCells])))⟩
              case measure => simp [intOf]; omega
          · have hOp := Lib.hid (hS'.out.on hE'.out)
            go_wp2_with fail
            refine (hOp.out).mono ?_
            rintro ev w4 ⟨rfl, hO⟩
            have hD := Lib.hid hO
            clear hS' hE' hO hOp
            go_wp2_with fail
            go_roundw
            case rel => exact ⟨k + 1, by omega, by omega, by go_num, hD⟩
            case measure => simp [intOf]; omega
        · go_wp2_with fail
          refine (hA0.out wo).mono ?_
          rintro e w3 ⟨rfl, hw3⟩
          rw [← hw3]
          clear hw3 w3 hA0 hA1 hA2
          rcases (show q = 0 ∨ q = 1 ∨ q = 2 ∨ q = 3 by omega) with rfl | rfl | rfl | rfl
          · go_wp2_with fail
            refine (hNx.out).mono ?_
            rintro e w3 ⟨rfl, hw3⟩
            rw [hw3]
            clear hw3 w3 hNx
            rcases (show z = -1 ∨ z = 3 ∨ (0 ≤ z ∧ z ≤ 2) by omega) with rfl | rfl | ⟨hz0, hz2⟩
            · have hD := Lib.hid (show CntR w wo ab wb (k + 1) from CntR.up ⟨A, O, r, p, e, f, c, hS'.out, hE'.out⟩)
              clear hS' hE'
              go_wp2_with fail
              go_roundw
              case rel => exact ⟨k + 1, by omega, by omega, by go_num, hD⟩
              case measure => simp [intOf]; omega
            · have hD := Lib.hid (show CntR w wo ab wb (k + 1) from CntR.up ⟨A, O, r, p, e, f, c, hS'.out, hE'.out⟩)
              clear hS' hE'
              go_wp2_with fail
              go_roundw
              case rel => exact ⟨k + 1, by omega, by omega, by go_num, hD⟩
              case measure => simp [intOf]; omega
            · obtain ⟨y, rfl⟩ := Int.eq_ofNat_of_zero_le hz0
              have hy3 : y < 3 := by omega
              have hOp := Lib.hid (hS'.out.progOff (fr := (0, 0)) hE'.out (by omega) hoff'.out d b y)
              go_wp2_with fail
              refine (hOp.out).mono ?_
              rintro ev w4 ⟨rfl, hO⟩
              have hD := Lib.hid hO
              clear hS' hE' hO hOp
              go_wp2_with fail
              go_roundw
              case rel => exact ⟨k + 1, by omega, by omega, by go_num, hD⟩
              case measure => simp [intOf]; omega
          · have hOp := Lib.hid (hS'.out.eraseOff hE'.out (by omega) hoff'.out d b)
            go_wp2_with fail
            refine (hOp.out).mono ?_
            rintro ev w4 ⟨rfl, hO⟩
            have hD := Lib.hid hO
            clear hS' hE' hO hOp
            go_wp2_with fail
            go_roundw
            case rel => exact ⟨k + 1, by omega, by omega, by go_num, hD⟩
            case measure => simp [intOf]; omega
          · have hOp := Lib.hid (hS'.out.readOff hE'.out (by omega) hoff'.out d b)
            go_wp2_with fail
            refine (hOp.out).mono ?_
            rintro ev w4 ⟨v4x, rfl, hO⟩
            have hD := Lib.hid hO
            clear hS' hE' hO hOp
            go_wp2_with fail
            go_roundw
            case rel => exact ⟨k + 1, by omega, by omega, by go_num, hD⟩
            case measure => simp [intOf]; omega
          · have hOp := Lib.hid (hS'.out.on hE'.out)
            go_wp2_with fail
            refine (hOp.out).mono ?_
            rintro ev w4 ⟨rfl, hO⟩
            have hD := Lib.hid hO
            clear hS' hE' hO hOp
            go_wp2_with fail
            go_roundw
            case rel => exact ⟨k + 1, by omega, by omega, by go_num, hD⟩
            case measure => simp [intOf]; omega
      · have hev : evCells A = #[.int .i64 (r : Nat), .int .i64 (p : Nat), .int .i64 (e : Nat), .int .i64 A.flips, .int .i64 (f : Nat), .int .i64 (c : Nat)] := by unfold evCells; rw [hE.r, hE.p, hE.e, hE.f, hE.c]
        have hEv := eventsI_any hS.o
        rw [hev] at hEv
        obtain ⟨fl, hfl⟩ : ∃ fl, A.flips = fl := ⟨_, rfl⟩
        rw [hfl] at hEv
        have hle := hS.le hE
        have hsum : A.ops = r + p + e := by rw [hS.sum, hE.r, hE.p, hE.e]
        have hEv' := Lib.hid hEv
        have hS' := Lib.hid hS
        have hsum' := Lib.hid hsum
        clear hS hE hEv hev hfl hkp hrel hsum
        go_wp2_with fail
        refine (hEv'.out).mono ?_
        rintro ev w5 ⟨rfl, k5⟩
        have hS5 := hS'.out.nil k5
        have hS6 := hS5.nil ((Keeps.refl Nil w5).alloc (.cells #[.int .i64 (r : Nat), .int .i64 (p : Nat), .int .i64 (e : Nat), .int .i64 fl, .int .i64 (f : Nat), .int .i64 (c : Nat)] 40))
        have hg6 := heap_alloc_new w5 (.cells #[.int .i64 (r : Nat), .int .i64 (p : Nat), .int .i64 (e : Nat), .int .i64 fl, .int .i64 (f : Nat), .int .i64 (c : Nat)] 40)
        have hlt5 := lt_of_heap hS5.want
        obtain ⟨w6, hw6⟩ : ∃ w6, w5.alloc (.cells #[.int .i64 (r : Nat), .int .i64 (p : Nat), .int .i64 (e : Nat), .int .i64 fl, .int .i64 (f : Nat), .int .i64 (c : Nat)] 40) = w6 := ⟨_, rfl⟩
        obtain ⟨gb, hgb⟩ : ∃ gb, w5.heap.size = gb := ⟨_, rfl⟩
        rw [hw6] at hS6 hg6
        rw [hgb] at hg6 hlt5
        have hw6' := Lib.hid hw6
        have hgb' := Lib.hid hgb
        have g3 := cell_of_heap hg6 3
        have u3 := cell_of_heap hS6.want 3
        have z3 := frozen_of_heap hS6.want 3
        simp only [cntCells, List.getElem?_toArray, List.getElem?_cons_zero, List.getElem?_cons_succ] at g3 u3
        have hw7 := heap_setCell_same hS6.want 3 (.int .i64 fl)
        have hg7 : (w6.setCell ⟨wb, 3, none⟩ (.int .i64 fl)).heap[gb]? = _ := (heap_setCell_other (by omega)).trans hg6
        have hS7 := hS6.set ((Keeps.refl (· = wb) w6).setCell (p := ⟨wb, 3, none⟩) (.inl rfl) (.int .i64 fl)) (r' := r) (p' := p) (e' := e) (f' := f) (c' := c)
        obtain ⟨w7, hw7e⟩ : ∃ w7, w6.setCell ⟨wb, 3, none⟩ (.int .i64 fl) = w7 := ⟨_, rfl⟩
        have k67 := (Keeps.refl (· = wb) w6).setCell (p := ⟨wb, 3, none⟩) (.inl rfl) (.int .i64 fl)
        rw [hw7e] at hw7 hg7 k67
        have hO7 := hS6.o.far k67 (fun j hj e => hS6.far (by rw [← e]; exact hj)) (fun j hj => by rw [hj]; exact hS6.new)
        have hw7' := Lib.hid hw7e
        have x0 := cell_of_heap hg7 0
        have x1 := cell_of_heap hg7 1
        have x2 := cell_of_heap hg7 2
        have x3 := cell_of_heap hg7 3
        have x4 := cell_of_heap hg7 4
        have x5 := cell_of_heap hg7 5
        have y0 := cell_of_heap hw7 0
        have y1 := cell_of_heap hw7 1
        have y2 := cell_of_heap hw7 2
        have y3 := cell_of_heap hw7 3
        have y4 := cell_of_heap hw7 4
        have y5 := cell_of_heap hw7 5
        simp [cntCells] at x0 x1 x2 x3 x4 x5 y0 y1 y2 y3 y4 y5
        have hOp := Lib.hid (fun W (hk : Keeps Nil w7 W) => opsI_any (hO7.nil hk))
        rw [hsum'.out, show ((r + p + e : Nat) : Int) = (r : Int) + (p : Int) + (e : Int) from by omega] at hOp
        have hkE := Lib.hid hO7.keep
        clear hS5 hS6 hS7 hg6 hw6 hgb hw7 hg7 hw7e k67 hO7 k5 hlt5
        go_upto_region 40 with (fail)
        rw [hw6'.out, hgb'.out]
        go_upto_region 41 with (fail)
        rw [hw7'.out]
        clear hw7' hw6' hgb' g3 u3 z3
        go_quiet ((go_at_call 19; exact Calls.quiet_of_same (hOp.out _ ((Keeps.refl Nil w7).drewN _))))
        go_wp2_with fail
        go_ret
        exact ⟨rfl, hkE.out.drewN _⟩
    · have hev : evCells A = #[.int .i64 (r : Nat), .int .i64 (p : Nat), .int .i64 (e : Nat), .int .i64 A.flips, .int .i64 (f : Nat), .int .i64 (c : Nat)] := by unfold evCells; rw [hE.r, hE.p, hE.e, hE.f, hE.c]
      have hEv := eventsI_any hS.o
      rw [hev] at hEv
      obtain ⟨fl, hfl⟩ : ∃ fl, A.flips = fl := ⟨_, rfl⟩
      rw [hfl] at hEv
      have hle := hS.le hE
      have hsum : A.ops = r + p + e := by rw [hS.sum, hE.r, hE.p, hE.e]
      have hEv' := Lib.hid hEv
      have hS' := Lib.hid hS
      have hsum' := Lib.hid hsum
      clear hS hE hEv hev hfl hkp hrel hsum
      go_wp2_with fail
      refine (hEv'.out).mono ?_
      rintro ev w5 ⟨rfl, k5⟩
      have hS5 := hS'.out.nil k5
      have hS6 := hS5.nil ((Keeps.refl Nil w5).alloc (.cells #[.int .i64 (r : Nat), .int .i64 (p : Nat), .int .i64 (e : Nat), .int .i64 fl, .int .i64 (f : Nat), .int .i64 (c : Nat)] 40))
      have hg6 := heap_alloc_new w5 (.cells #[.int .i64 (r : Nat), .int .i64 (p : Nat), .int .i64 (e : Nat), .int .i64 fl, .int .i64 (f : Nat), .int .i64 (c : Nat)] 40)
      have hlt5 := lt_of_heap hS5.want
      obtain ⟨w6, hw6⟩ : ∃ w6, w5.alloc (.cells #[.int .i64 (r : Nat), .int .i64 (p : Nat), .int .i64 (e : Nat), .int .i64 fl, .int .i64 (f : Nat), .int .i64 (c : Nat)] 40) = w6 := ⟨_, rfl⟩
      obtain ⟨gb, hgb⟩ : ∃ gb, w5.heap.size = gb := ⟨_, rfl⟩
      rw [hw6] at hS6 hg6
      rw [hgb] at hg6 hlt5
      have hw6' := Lib.hid hw6
      have hgb' := Lib.hid hgb
      have g3 := cell_of_heap hg6 3
      have u3 := cell_of_heap hS6.want 3
      have z3 := frozen_of_heap hS6.want 3
      simp only [cntCells, List.getElem?_toArray, List.getElem?_cons_zero, List.getElem?_cons_succ] at g3 u3
      have hw7 := heap_setCell_same hS6.want 3 (.int .i64 fl)
      have hg7 : (w6.setCell ⟨wb, 3, none⟩ (.int .i64 fl)).heap[gb]? = _ := (heap_setCell_other (by omega)).trans hg6
      have hS7 := hS6.set ((Keeps.refl (· = wb) w6).setCell (p := ⟨wb, 3, none⟩) (.inl rfl) (.int .i64 fl)) (r' := r) (p' := p) (e' := e) (f' := f) (c' := c)
      obtain ⟨w7, hw7e⟩ : ∃ w7, w6.setCell ⟨wb, 3, none⟩ (.int .i64 fl) = w7 := ⟨_, rfl⟩
      have k67 := (Keeps.refl (· = wb) w6).setCell (p := ⟨wb, 3, none⟩) (.inl rfl) (.int .i64 fl)
      rw [hw7e] at hw7 hg7 k67
      have hO7 := hS6.o.far k67 (fun j hj e => hS6.far (by rw [← e]; exact hj)) (fun j hj => by rw [hj]; exact hS6.new)
      have hw7' := Lib.hid hw7e
      have x0 := cell_of_heap hg7 0
      have x1 := cell_of_heap hg7 1
      have x2 := cell_of_heap hg7 2
      have x3 := cell_of_heap hg7 3
      have x4 := cell_of_heap hg7 4
      have x5 := cell_of_heap hg7 5
      have y0 := cell_of_heap hw7 0
      have y1 := cell_of_heap hw7 1
      have y2 := cell_of_heap hw7 2
      have y3 := cell_of_heap hw7 3
      have y4 := cell_of_heap hw7 4
      have y5 := cell_of_heap hw7 5
      simp [cntCells] at x0 x1 x2 x3 x4 x5 y0 y1 y2 y3 y4 y5
      have hOp := Lib.hid (fun W (hk : Keeps Nil w7 W) => opsI_any (hO7.nil hk))
      rw [hsum'.out, show ((r + p + e : Nat) : Int) = (r : Int) + (p : Int) + (e : Int) from by omega] at hOp
      have hkE := Lib.hid hO7.keep
      clear hS5 hS6 hS7 hg6 hw6 hgb hw7 hg7 hw7e k67 hO7 k5 hlt5
      go_upto_region 40 with (fail)
      rw [hw6'.out, hgb'.out]
      go_upto_region 41 with (fail)
      rw [hw7'.out]
      clear hw7' hw6' hgb' g3 u3 z3
      go_quiet ((go_at_call 19; exact Calls.quiet_of_same (hOp.out _ ((Keeps.refl Nil w7).drewN _))))
      go_wp2_with fail
      go_ret
      exact ⟨rfl, hkE.out.drewN _⟩
end Go.Proofs.Ytglpacdenfoicaa
