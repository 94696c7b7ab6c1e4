/- the reference's Choose, by benefit -/
import Derived.Test.YtiemfmkaofakoaaF
namespace Go.Proofs.Ytiemfmkaofakoaa
open Go.RowKit
attribute [local go_sem ↓] Go.wp_at_zero Go.wp_at_succ

theorem above_val (s t : Sup) (v : Bool) (w : World) (h : aboveB s t = v) : Calls Try.prog 23 #[supV s, supV t] w fun e w' => e = .returned (.bool v) ∧ Keeps Nil w w' := by
  subst h; exact above_any s t w

set_option maxHeartbeats 8000000 in
set_option maxRecDepth 100000 in
theorem rchoose_b (a : Option Addr) (n cap : Nat) (l : Nat → Sup) (w : World) (hl : SupsAt w a n l) (hm : n ≤ maxLen) :
    Calls Try.prog 10 #[.slice a n cap, .int .i64 2] w fun e w' => e = .returned (.int .i64 (refSel mayG l benef n 0 n)) ∧ Keeps Nil w w' := by
  unfold maxLen at hm
  have hl' := Lib.hid hl
  clear hl
  go_enter Try.func10, Try.ntmps10
  go_wp2_with fail
  go_loopw [5] (fun i wr => ∃ k : Nat, k ≤ n ∧ i = .int .i64 k ∧ Keeps Nil w wr ∧ Hid (refSel mayG l benef n 0 n = refSel mayG l benef n k (n - k))) (fun i _ => n - (intOf i).toNat)
  case atStart => exact ⟨0, Nat.zero_le _, rfl, Keeps.refl _ _, rfl⟩
  case round =>
    obtain ⟨i, hi, rfl, hkp, hrel⟩ := hrel
    have hkp' := Lib.hid hkp
    clear hkp
    by_cases hlt : i < n
    · have hltI : (i : Int) < n := by omega
      obtain ⟨b, off, rfl, c0, c1, c2, c3, c4, c5, c6⟩ := (hl'.out.keeps hkp'.out) i hlt
      go_wp2_with fail
      refine (rmay_any (l i) _).mono ?_
      rintro e w1 ⟨rfl, k1⟩
      have k1' := Lib.hid k1
      clear k1 c0 c1 c2 c3 c4 c5 c6
      go_wp2_with fail
      go_loopw [6, 7] (fun ok q wx => ∃ k : Nat, k ≤ n ∧ q = .int .i64 k ∧ ok = .bool (okTo mayG l benef i k) ∧ Keeps Nil w wx) (fun _ q _ => n - (intOf q).toNat)
      case atStart => exact ⟨0, Nat.zero_le _, rfl, rfl, hkp'.out.trans k1'.out⟩
      case round =>
        obtain ⟨k, hk, rfl, rfl, hkp2⟩ := hrel
        have hkp2' := Lib.hid hkp2
        clear hkp2
        cases hok : okTo mayG l benef i k
        · have hrel2 := Lib.hid (hrel.out.trans (refSel_no hlt (by have := okTo_stuck hok (n - k); rwa [show k + (n - k) = n by omega] at this)))
          have hok' := Lib.hid hok
          clear hrel hok
          by_cases hkn : k < n
          · have d1 : decide ((k : Int) < n) = true := decide_eq_true (by omega)
            go_wp2_with fail
            go_roundw
            case rel => exact ⟨i + 1, by omega, by go_num, hkp2'.out, hrel2⟩
            case measure => simp [intOf]; omega
          · have d1 : decide ((k : Int) < n) = false := decide_eq_false (by omega)
            go_wp2_with fail
            go_roundw
            case rel => exact ⟨i + 1, by omega, by go_num, hkp2'.out, hrel2⟩
            case measure => simp [intOf]; omega
        · by_cases hkn : k < n
          · have hknI : (k : Int) < n := by omega
            have hok' := Lib.hid hok
            clear hok
            obtain ⟨b', off', hbe, c0, c1, c2, c3, c4, c5, c6⟩ := (hl'.out.keeps hkp2'.out) k hkn
            simp only [Option.some.injEq, Addr.mk.injEq] at hbe
            obtain ⟨rfl, rfl, _⟩ := hbe
            by_cases hki : k = i
            · have e1 : ((k : Int) == (i : Int)) = true := by simp [hki]
              have hs := Lib.hid ((okTo_skip (p := mayG) (l := l) (c := benef) (.inl hki)).trans hok'.out)
              clear hki
              go_wp2_with fail
              refine (rmay_any (l k) _).mono ?_
              rintro e w2 ⟨rfl, k2⟩
              have k2' := Lib.hid k2
              clear k2
              go_wp2_with fail
              go_roundw
              case rel => exact ⟨k + 1, by omega, by go_num, by rw [hs.out], hkp2'.out.trans k2'.out⟩
              case measure => simp [intOf]; omega
            · have e1 : ((k : Int) == (i : Int)) = false := by simp; omega
              have hki' := Lib.hid hki
              clear hki
              cases hmy : mayG (l k)
              · have hs := Lib.hid ((okTo_skip (p := mayG) (l := l) (c := benef) (i := i) (.inr hmy)).trans hok'.out)
                have hmy' := Lib.hid hmy
                clear hmy
                go_wp2_with fail
                refine (rmay_any (l k) _).mono ?_
                rw [hmy'.out]
                rintro e w2 ⟨rfl, k2⟩
                have k2' := Lib.hid k2
                clear k2
                go_wp2_with fail
                go_roundw
                case rel => exact ⟨k + 1, by omega, by go_num, by rw [hs.out], hkp2'.out.trans k2'.out⟩
                case measure => simp [intOf]; omega
              · have hmy' := Lib.hid hmy
                clear hmy
                go_wp2_with fail
                refine (rmay_any (l k) _).mono ?_
                rw [hmy'.out]
                rintro e w2 ⟨rfl, k2⟩
                have k2' := Lib.hid k2
                obtain ⟨b', off', hbe, hsi⟩ := (hl'.out.keeps (hkp2'.out.trans k2)) i hlt
                simp only [Option.some.injEq, Addr.mk.injEq] at hbe
                obtain ⟨rfl, rfl, _⟩ := hbe
                obtain ⟨b', off', hbe, hsk⟩ := (hl'.out.keeps (hkp2'.out.trans k2)) k hkn
                simp only [Option.some.injEq, Addr.mk.injEq] at hbe
                obtain ⟨rfl, rfl, _⟩ := hbe
                have KS := fun (W : World) (hW : Keeps Nil w2 W) => (⟨hW.cell hsk.c0 (fun h => h), hW.cell hsk.c1 (fun h => h), hW.cell hsk.c2 (fun h => h), hW.cell hsk.c3 (fun h => h), hW.cell hsk.c4 (fun h => h), hW.cell hsk.c5 (fun h => h), hW.cell hsk.c6 (fun h => h), hW.cell hsi.c0 (fun h => h), hW.cell hsi.c1 (fun h => h), hW.cell hsi.c2 (fun h => h), hW.cell hsi.c3 (fun h => h), hW.cell hsi.c4 (fun h => h), hW.cell hsi.c5 (fun h => h), hW.cell hsi.c6 (fun h => h)⟩ : W.cell? ⟨b, off + k * 7, none⟩ = some (.int .u32 (l k).id) ∧ W.cell? ⟨b, off + k * 7 + 1, none⟩ = some (.int .i64 (l k).live) ∧ W.cell? ⟨b, off + k * 7 + 2, none⟩ = some (.int .i64 (l k).slots) ∧ W.cell? ⟨b, off + k * 7 + 3, none⟩ = some (.int .i64 (l k).age) ∧ W.cell? ⟨b, off + k * 7 + 4, none⟩ = some (.int .i64 (l k).erases) ∧ W.cell? ⟨b, off + k * 7 + 5, none⟩ = some (.int .i64 (l k).reads) ∧ W.cell? ⟨b, off + k * 7 + 6, none⟩ = some (.bool (l k).sick) ∧ W.cell? ⟨b, off + i * 7, none⟩ = some (.int .u32 (l i).id) ∧ W.cell? ⟨b, off + i * 7 + 1, none⟩ = some (.int .i64 (l i).live) ∧ W.cell? ⟨b, off + i * 7 + 2, none⟩ = some (.int .i64 (l i).slots) ∧ W.cell? ⟨b, off + i * 7 + 3, none⟩ = some (.int .i64 (l i).age) ∧ W.cell? ⟨b, off + i * 7 + 4, none⟩ = some (.int .i64 (l i).erases) ∧ W.cell? ⟨b, off + i * 7 + 5, none⟩ = some (.int .i64 (l i).reads) ∧ W.cell? ⟨b, off + i * 7 + 6, none⟩ = some (.bool (l i).sick))
                have KS' := Lib.hid KS
                have i0 := hsi.c0
                have i1 := hsi.c1
                have j0 := hsk.c0
                have j1 := hsk.c1
                clear k2 c0 c1 c2 c3 c4 c5 c6 hsi hsk KS
                have hnx := Lib.hid (okTo_next hok'.out hki'.out hmy'.out)
                rcases bad_cases benef l i k with ⟨h1, hb⟩ | ⟨h1, h2, hb⟩ | ⟨h1, h2, hb⟩ | ⟨h1, h2, h3, hb⟩ | ⟨h1, h2, h3, hb⟩ | ⟨h1, h2, h3, hb⟩
                · have qA := Lib.hid (show aboveB (l k) (l i) = true from decide_eq_true h1)
                  have hb' := Lib.hid (hnx.out.trans (congrArg Bool.not hb))
                  clear h1  hb
                  go_wp2_with fail
                  go_quiet ((go_at_call 22; exact Calls.quiet_of_same (in_any _ _)))
                  go_wp2_with fail
                  go_quiet ((go_at_call 22; exact quiet_more (in_any _ _)))
                  go_upto_region 15 with (fail)
                  go_cut [9] (fun s9 wx => s9 = .bool true ∧ Keeps Nil w2 wx)
                  case first =>
                    go_region_held3 (fun W => W.cell? ⟨b, off + k * 7, none⟩ = some (.int .u32 (l k).id) ∧ W.cell? ⟨b, off + k * 7 + 1, none⟩ = some (.int .i64 (l k).live) ∧ W.cell? ⟨b, off + k * 7 + 2, none⟩ = some (.int .i64 (l k).slots) ∧ W.cell? ⟨b, off + k * 7 + 3, none⟩ = some (.int .i64 (l k).age) ∧ W.cell? ⟨b, off + k * 7 + 4, none⟩ = some (.int .i64 (l k).erases) ∧ W.cell? ⟨b, off + k * 7 + 5, none⟩ = some (.int .i64 (l k).reads) ∧ W.cell? ⟨b, off + k * 7 + 6, none⟩ = some (.bool (l k).sick) ∧ W.cell? ⟨b, off + i * 7, none⟩ = some (.int .u32 (l i).id) ∧ W.cell? ⟨b, off + i * 7 + 1, none⟩ = some (.int .i64 (l i).live) ∧ W.cell? ⟨b, off + i * 7 + 2, none⟩ = some (.int .i64 (l i).slots) ∧ W.cell? ⟨b, off + i * 7 + 3, none⟩ = some (.int .i64 (l i).age) ∧ W.cell? ⟨b, off + i * 7 + 4, none⟩ = some (.int .i64 (l i).erases) ∧ W.cell? ⟨b, off + i * 7 + 5, none⟩ = some (.int .i64 (l i).reads) ∧ W.cell? ⟨b, off + i * 7 + 6, none⟩ = some (.bool (l i).sick))
                        (first | exact KS'.out _ (((Keeps.refl Nil w2).drewN _).drew) | exact KS'.out _ ((((Keeps.refl Nil w2).drewN _).drew).trans hk4))
                        ((go_at_call 23; refine (above_val (l k) (l i) true _ qA.out).mono ?_; rintro e w4 ⟨rfl, hk4⟩))
                    all_goals
                      go_wp2_with fail
                      go_meet
                      exact ⟨rfl, (((Keeps.refl Nil w2).drewN _).drew).trans hk4⟩
                  case rest =>
                    obtain ⟨rfl, k5⟩ := hcut
                    have k5' := Lib.hid k5
                    clear k5
                    go_wp2_with fail
                    go_quiet (fail)
                    go_wp2_with fail
                    go_quiet (fail)
                    go_wp2_with fail
                    go_roundw
                    case rel => exact ⟨k + 1, by omega, by go_num, by rw [hb'.out]; rfl, ((hkp2'.out.trans k2'.out).trans k5'.out).drewN _⟩
                    case measure => simp [intOf]; omega
                · have qA := Lib.hid (show aboveB (l k) (l i) = false from decide_eq_false h1)
                  have qB := Lib.hid (show aboveB (l i) (l k) = true from decide_eq_true ((benef_ordr.anti (l i) (l k)).2 (by omega)))
                  have hb' := Lib.hid (hnx.out.trans (congrArg Bool.not hb))
                  clear h1 h2 hb
                  go_wp2_with fail
                  go_quiet ((go_at_call 22; exact Calls.quiet_of_same (in_any _ _)))
                  go_wp2_with fail
                  go_quiet ((go_at_call 22; exact quiet_more (in_any _ _)))
                  go_upto_region 15 with (fail)
                  go_cut [9] (fun s9 wx => s9 = .bool false ∧ Keeps Nil w2 wx)
                  case first =>
                    go_region_held3 (fun W => W.cell? ⟨b, off + k * 7, none⟩ = some (.int .u32 (l k).id) ∧ W.cell? ⟨b, off + k * 7 + 1, none⟩ = some (.int .i64 (l k).live) ∧ W.cell? ⟨b, off + k * 7 + 2, none⟩ = some (.int .i64 (l k).slots) ∧ W.cell? ⟨b, off + k * 7 + 3, none⟩ = some (.int .i64 (l k).age) ∧ W.cell? ⟨b, off + k * 7 + 4, none⟩ = some (.int .i64 (l k).erases) ∧ W.cell? ⟨b, off + k * 7 + 5, none⟩ = some (.int .i64 (l k).reads) ∧ W.cell? ⟨b, off + k * 7 + 6, none⟩ = some (.bool (l k).sick) ∧ W.cell? ⟨b, off + i * 7, none⟩ = some (.int .u32 (l i).id) ∧ W.cell? ⟨b, off + i * 7 + 1, none⟩ = some (.int .i64 (l i).live) ∧ W.cell? ⟨b, off + i * 7 + 2, none⟩ = some (.int .i64 (l i).slots) ∧ W.cell? ⟨b, off + i * 7 + 3, none⟩ = some (.int .i64 (l i).age) ∧ W.cell? ⟨b, off + i * 7 + 4, none⟩ = some (.int .i64 (l i).erases) ∧ W.cell? ⟨b, off + i * 7 + 5, none⟩ = some (.int .i64 (l i).reads) ∧ W.cell? ⟨b, off + i * 7 + 6, none⟩ = some (.bool (l i).sick))
                        (first | exact KS'.out _ (((Keeps.refl Nil w2).drewN _).drew) | exact KS'.out _ ((((Keeps.refl Nil w2).drewN _).drew).trans hk4))
                        ((go_at_call 23; refine (above_val (l k) (l i) false _ qA.out).mono ?_; rintro e w4 ⟨rfl, hk4⟩))
                    all_goals
                      go_wp2_with fail
                      go_meet
                      exact ⟨rfl, (((Keeps.refl Nil w2).drewN _).drew).trans hk4⟩
                  case rest =>
                    obtain ⟨rfl, k5⟩ := hcut
                    have k5' := Lib.hid k5
                    clear k5
                    go_upto_region 16 with (fail)
                    go_cut [10] (fun s10 wx => s10 = .bool false ∧ Keeps Nil w2 wx)
                    case first =>
                      go_region_held3 (fun W => W.cell? ⟨b, off + k * 7, none⟩ = some (.int .u32 (l k).id) ∧ W.cell? ⟨b, off + k * 7 + 1, none⟩ = some (.int .i64 (l k).live) ∧ W.cell? ⟨b, off + k * 7 + 2, none⟩ = some (.int .i64 (l k).slots) ∧ W.cell? ⟨b, off + k * 7 + 3, none⟩ = some (.int .i64 (l k).age) ∧ W.cell? ⟨b, off + k * 7 + 4, none⟩ = some (.int .i64 (l k).erases) ∧ W.cell? ⟨b, off + k * 7 + 5, none⟩ = some (.int .i64 (l k).reads) ∧ W.cell? ⟨b, off + k * 7 + 6, none⟩ = some (.bool (l k).sick) ∧ W.cell? ⟨b, off + i * 7, none⟩ = some (.int .u32 (l i).id) ∧ W.cell? ⟨b, off + i * 7 + 1, none⟩ = some (.int .i64 (l i).live) ∧ W.cell? ⟨b, off + i * 7 + 2, none⟩ = some (.int .i64 (l i).slots) ∧ W.cell? ⟨b, off + i * 7 + 3, none⟩ = some (.int .i64 (l i).age) ∧ W.cell? ⟨b, off + i * 7 + 4, none⟩ = some (.int .i64 (l i).erases) ∧ W.cell? ⟨b, off + i * 7 + 5, none⟩ = some (.int .i64 (l i).reads) ∧ W.cell? ⟨b, off + i * 7 + 6, none⟩ = some (.bool (l i).sick))
                        (first | exact KS'.out _ ((k5'.out).drew) | exact KS'.out _ (((k5'.out).drew).trans hk4))
                        ((go_at_call 23; refine (above_val (l i) (l k) true _ qB.out).mono ?_; rintro e w4 ⟨rfl, hk4⟩))
                      all_goals
                        go_wp2_with fail
                        go_meet
                        exact ⟨rfl, ((k5'.out).drew).trans hk4⟩
                    case rest =>
                      obtain ⟨rfl, k6⟩ := hcut
                      have k6' := Lib.hid k6
                      have hc6 := KS'.out _ k6
                      have i0 := hc6.2.2.2.2.2.2.2.1
                      have j0 := hc6.1
                      clear k6 hc6
                      go_wp2_with fail
                      go_quiet (fail)
                      go_wp2_with fail
                      go_roundw
                      case rel => exact ⟨k + 1, by omega, by go_num, by rw [hb'.out]; rfl, ((hkp2'.out.trans k2'.out).trans k6'.out).drewN _⟩
                      case measure => simp [intOf]; omega
                · have qA := Lib.hid (show aboveB (l k) (l i) = false from decide_eq_false (by omega))
                  have qB := Lib.hid (show aboveB (l i) (l k) = false from decide_eq_false (fun hh => by have := (benef_ordr.anti (l i) (l k)).1 hh; omega))
                  have q3 : decide ((l k).id < (l i).id) = true := decide_eq_true h2
                  have hb' := Lib.hid (hnx.out.trans (congrArg Bool.not hb))
                  clear h1 h2 hb
                  go_wp2_with fail
                  go_quiet ((go_at_call 22; exact Calls.quiet_of_same (in_any _ _)))
                  go_wp2_with fail
                  go_quiet ((go_at_call 22; exact quiet_more (in_any _ _)))
                  go_upto_region 15 with (fail)
                  go_cut [9] (fun s9 wx => s9 = .bool false ∧ Keeps Nil w2 wx)
                  case first =>
                    go_region_held3 (fun W => W.cell? ⟨b, off + k * 7, none⟩ = some (.int .u32 (l k).id) ∧ W.cell? ⟨b, off + k * 7 + 1, none⟩ = some (.int .i64 (l k).live) ∧ W.cell? ⟨b, off + k * 7 + 2, none⟩ = some (.int .i64 (l k).slots) ∧ W.cell? ⟨b, off + k * 7 + 3, none⟩ = some (.int .i64 (l k).age) ∧ W.cell? ⟨b, off + k * 7 + 4, none⟩ = some (.int .i64 (l k).erases) ∧ W.cell? ⟨b, off + k * 7 + 5, none⟩ = some (.int .i64 (l k).reads) ∧ W.cell? ⟨b, off + k * 7 + 6, none⟩ = some (.bool (l k).sick) ∧ W.cell? ⟨b, off + i * 7, none⟩ = some (.int .u32 (l i).id) ∧ W.cell? ⟨b, off + i * 7 + 1, none⟩ = some (.int .i64 (l i).live) ∧ W.cell? ⟨b, off + i * 7 + 2, none⟩ = some (.int .i64 (l i).slots) ∧ W.cell? ⟨b, off + i * 7 + 3, none⟩ = some (.int .i64 (l i).age) ∧ W.cell? ⟨b, off + i * 7 + 4, none⟩ = some (.int .i64 (l i).erases) ∧ W.cell? ⟨b, off + i * 7 + 5, none⟩ = some (.int .i64 (l i).reads) ∧ W.cell? ⟨b, off + i * 7 + 6, none⟩ = some (.bool (l i).sick))
                        (first | exact KS'.out _ (((Keeps.refl Nil w2).drewN _).drew) | exact KS'.out _ ((((Keeps.refl Nil w2).drewN _).drew).trans hk4))
                        ((go_at_call 23; refine (above_val (l k) (l i) false _ qA.out).mono ?_; rintro e w4 ⟨rfl, hk4⟩))
                    all_goals
                      go_wp2_with fail
                      go_meet
                      exact ⟨rfl, (((Keeps.refl Nil w2).drewN _).drew).trans hk4⟩
                  case rest =>
                    obtain ⟨rfl, k5⟩ := hcut
                    have k5' := Lib.hid k5
                    clear k5
                    go_upto_region 16 with (fail)
                    go_cut [10] (fun s10 wx => s10 = .bool true ∧ Keeps Nil w2 wx)
                    case first =>
                      go_region_held3 (fun W => W.cell? ⟨b, off + k * 7, none⟩ = some (.int .u32 (l k).id) ∧ W.cell? ⟨b, off + k * 7 + 1, none⟩ = some (.int .i64 (l k).live) ∧ W.cell? ⟨b, off + k * 7 + 2, none⟩ = some (.int .i64 (l k).slots) ∧ W.cell? ⟨b, off + k * 7 + 3, none⟩ = some (.int .i64 (l k).age) ∧ W.cell? ⟨b, off + k * 7 + 4, none⟩ = some (.int .i64 (l k).erases) ∧ W.cell? ⟨b, off + k * 7 + 5, none⟩ = some (.int .i64 (l k).reads) ∧ W.cell? ⟨b, off + k * 7 + 6, none⟩ = some (.bool (l k).sick) ∧ W.cell? ⟨b, off + i * 7, none⟩ = some (.int .u32 (l i).id) ∧ W.cell? ⟨b, off + i * 7 + 1, none⟩ = some (.int .i64 (l i).live) ∧ W.cell? ⟨b, off + i * 7 + 2, none⟩ = some (.int .i64 (l i).slots) ∧ W.cell? ⟨b, off + i * 7 + 3, none⟩ = some (.int .i64 (l i).age) ∧ W.cell? ⟨b, off + i * 7 + 4, none⟩ = some (.int .i64 (l i).erases) ∧ W.cell? ⟨b, off + i * 7 + 5, none⟩ = some (.int .i64 (l i).reads) ∧ W.cell? ⟨b, off + i * 7 + 6, none⟩ = some (.bool (l i).sick))
                        (first | exact KS'.out _ ((k5'.out).drew) | exact KS'.out _ (((k5'.out).drew).trans hk4))
                        ((go_at_call 23; refine (above_val (l i) (l k) false _ qB.out).mono ?_; rintro e w4 ⟨rfl, hk4⟩))
                      all_goals
                        go_wp2_with fail
                        go_meet
                        exact ⟨rfl, ((k5'.out).drew).trans hk4⟩
                    case rest =>
                      obtain ⟨rfl, k6⟩ := hcut
                      have k6' := Lib.hid k6
                      have hc6 := KS'.out _ k6
                      have i0 := hc6.2.2.2.2.2.2.2.1
                      have j0 := hc6.1
                      clear k6 hc6
                      go_wp2_with fail
                      go_quiet (fail)
                      go_wp2_with fail
                      go_roundw
                      case rel => exact ⟨k + 1, by omega, by go_num, by rw [hb'.out]; rfl, ((hkp2'.out.trans k2'.out).trans k6'.out).drewN _⟩
                      case measure => simp [intOf]; omega
                · have qA := Lib.hid (show aboveB (l k) (l i) = false from decide_eq_false (by omega))
                  have qB := Lib.hid (show aboveB (l i) (l k) = false from decide_eq_false (fun hh => by have := (benef_ordr.anti (l i) (l k)).1 hh; omega))
                  have q3 : decide ((l k).id < (l i).id) = false := decide_eq_false h2
                  have q4 : ((l k).id == (l i).id) = false := by simpa using h3
                  have hb' := Lib.hid (hnx.out.trans (congrArg Bool.not hb))
                  clear h1 h2 h3 hb
                  go_wp2_with fail
                  go_quiet ((go_at_call 22; exact Calls.quiet_of_same (in_any _ _)))
                  go_wp2_with fail
                  go_quiet ((go_at_call 22; exact quiet_more (in_any _ _)))
                  go_upto_region 15 with (fail)
                  go_cut [9] (fun s9 wx => s9 = .bool false ∧ Keeps Nil w2 wx)
                  case first =>
                    go_region_held3 (fun W => W.cell? ⟨b, off + k * 7, none⟩ = some (.int .u32 (l k).id) ∧ W.cell? ⟨b, off + k * 7 + 1, none⟩ = some (.int .i64 (l k).live) ∧ W.cell? ⟨b, off + k * 7 + 2, none⟩ = some (.int .i64 (l k).slots) ∧ W.cell? ⟨b, off + k * 7 + 3, none⟩ = some (.int .i64 (l k).age) ∧ W.cell? ⟨b, off + k * 7 + 4, none⟩ = some (.int .i64 (l k).erases) ∧ W.cell? ⟨b, off + k * 7 + 5, none⟩ = some (.int .i64 (l k).reads) ∧ W.cell? ⟨b, off + k * 7 + 6, none⟩ = some (.bool (l k).sick) ∧ W.cell? ⟨b, off + i * 7, none⟩ = some (.int .u32 (l i).id) ∧ W.cell? ⟨b, off + i * 7 + 1, none⟩ = some (.int .i64 (l i).live) ∧ W.cell? ⟨b, off + i * 7 + 2, none⟩ = some (.int .i64 (l i).slots) ∧ W.cell? ⟨b, off + i * 7 + 3, none⟩ = some (.int .i64 (l i).age) ∧ W.cell? ⟨b, off + i * 7 + 4, none⟩ = some (.int .i64 (l i).erases) ∧ W.cell? ⟨b, off + i * 7 + 5, none⟩ = some (.int .i64 (l i).reads) ∧ W.cell? ⟨b, off + i * 7 + 6, none⟩ = some (.bool (l i).sick))
                        (first | exact KS'.out _ (((Keeps.refl Nil w2).drewN _).drew) | exact KS'.out _ ((((Keeps.refl Nil w2).drewN _).drew).trans hk4))
                        ((go_at_call 23; refine (above_val (l k) (l i) false _ qA.out).mono ?_; rintro e w4 ⟨rfl, hk4⟩))
                    all_goals
                      go_wp2_with fail
                      go_meet
                      exact ⟨rfl, (((Keeps.refl Nil w2).drewN _).drew).trans hk4⟩
                  case rest =>
                    obtain ⟨rfl, k5⟩ := hcut
                    have k5' := Lib.hid k5
                    clear k5
                    go_upto_region 16 with (fail)
                    go_cut [10] (fun s10 wx => s10 = .bool true ∧ Keeps Nil w2 wx)
                    case first =>
                      go_region_held3 (fun W => W.cell? ⟨b, off + k * 7, none⟩ = some (.int .u32 (l k).id) ∧ W.cell? ⟨b, off + k * 7 + 1, none⟩ = some (.int .i64 (l k).live) ∧ W.cell? ⟨b, off + k * 7 + 2, none⟩ = some (.int .i64 (l k).slots) ∧ W.cell? ⟨b, off + k * 7 + 3, none⟩ = some (.int .i64 (l k).age) ∧ W.cell? ⟨b, off + k * 7 + 4, none⟩ = some (.int .i64 (l k).erases) ∧ W.cell? ⟨b, off + k * 7 + 5, none⟩ = some (.int .i64 (l k).reads) ∧ W.cell? ⟨b, off + k * 7 + 6, none⟩ = some (.bool (l k).sick) ∧ W.cell? ⟨b, off + i * 7, none⟩ = some (.int .u32 (l i).id) ∧ W.cell? ⟨b, off + i * 7 + 1, none⟩ = some (.int .i64 (l i).live) ∧ W.cell? ⟨b, off + i * 7 + 2, none⟩ = some (.int .i64 (l i).slots) ∧ W.cell? ⟨b, off + i * 7 + 3, none⟩ = some (.int .i64 (l i).age) ∧ W.cell? ⟨b, off + i * 7 + 4, none⟩ = some (.int .i64 (l i).erases) ∧ W.cell? ⟨b, off + i * 7 + 5, none⟩ = some (.int .i64 (l i).reads) ∧ W.cell? ⟨b, off + i * 7 + 6, none⟩ = some (.bool (l i).sick))
                        (first | exact KS'.out _ ((k5'.out).drew) | exact KS'.out _ (((k5'.out).drew).trans hk4))
                        ((go_at_call 23; refine (above_val (l i) (l k) false _ qB.out).mono ?_; rintro e w4 ⟨rfl, hk4⟩))
                      all_goals
                        go_wp2_with fail
                        go_meet
                        exact ⟨rfl, ((k5'.out).drew).trans hk4⟩
                    case rest =>
                      obtain ⟨rfl, k6⟩ := hcut
                      have k6' := Lib.hid k6
                      have hc6 := KS'.out _ k6
                      have i0 := hc6.2.2.2.2.2.2.2.1
                      have j0 := hc6.1
                      clear k6 hc6
                      go_wp2_with fail
                      go_quiet (fail)
                      go_wp2_with fail
                      go_roundw
                      case rel => exact ⟨k + 1, by omega, by go_num, by rw [hb'.out]; rfl, ((hkp2'.out.trans k2'.out).trans k6'.out).drewN _⟩
                      case measure => simp [intOf]; omega
                · have qA := Lib.hid (show aboveB (l k) (l i) = false from decide_eq_false (by omega))
                  have qB := Lib.hid (show aboveB (l i) (l k) = false from decide_eq_false (fun hh => by have := (benef_ordr.anti (l i) (l k)).1 hh; omega))
                  have q3 : decide ((l k).id < (l i).id) = false := decide_eq_false (by omega)
                  have q4 : ((l k).id == (l i).id) = true := by simpa using h2
                  have q5 : decide (k < i) = true := decide_eq_true (by omega)
                  have hb' := Lib.hid (hnx.out.trans (congrArg Bool.not hb))
                  clear h1 h2 h3 hb
                  go_wp2_with fail
                  go_quiet ((go_at_call 22; exact Calls.quiet_of_same (in_any _ _)))
                  go_wp2_with fail
                  go_quiet ((go_at_call 22; exact quiet_more (in_any _ _)))
                  go_upto_region 15 with (fail)
                  go_cut [9] (fun s9 wx => s9 = .bool false ∧ Keeps Nil w2 wx)
                  case first =>
                    go_region_held3 (fun W => W.cell? ⟨b, off + k * 7, none⟩ = some (.int .u32 (l k).id) ∧ W.cell? ⟨b, off + k * 7 + 1, none⟩ = some (.int .i64 (l k).live) ∧ W.cell? ⟨b, off + k * 7 + 2, none⟩ = some (.int .i64 (l k).slots) ∧ W.cell? ⟨b, off + k * 7 + 3, none⟩ = some (.int .i64 (l k).age) ∧ W.cell? ⟨b, off + k * 7 + 4, none⟩ = some (.int .i64 (l k).erases) ∧ W.cell? ⟨b, off + k * 7 + 5, none⟩ = some (.int .i64 (l k).reads) ∧ W.cell? ⟨b, off + k * 7 + 6, none⟩ = some (.bool (l k).sick) ∧ W.cell? ⟨b, off + i * 7, none⟩ = some (.int .u32 (l i).id) ∧ W.cell? ⟨b, off + i * 7 + 1, none⟩ = some (.int .i64 (l i).live) ∧ W.cell? ⟨b, off + i * 7 + 2, none⟩ = some (.int .i64 (l i).slots) ∧ W.cell? ⟨b, off + i * 7 + 3, none⟩ = some (.int .i64 (l i).age) ∧ W.cell? ⟨b, off + i * 7 + 4, none⟩ = some (.int .i64 (l i).erases) ∧ W.cell? ⟨b, off + i * 7 + 5, none⟩ = some (.int .i64 (l i).reads) ∧ W.cell? ⟨b, off + i * 7 + 6, none⟩ = some (.bool (l i).sick))
                        (first | exact KS'.out _ (((Keeps.refl Nil w2).drewN _).drew) | exact KS'.out _ ((((Keeps.refl Nil w2).drewN _).drew).trans hk4))
                        ((go_at_call 23; refine (above_val (l k) (l i) false _ qA.out).mono ?_; rintro e w4 ⟨rfl, hk4⟩))
                    all_goals
                      go_wp2_with fail
                      go_meet
                      exact ⟨rfl, (((Keeps.refl Nil w2).drewN _).drew).trans hk4⟩
                  case rest =>
                    obtain ⟨rfl, k5⟩ := hcut
                    have k5' := Lib.hid k5
                    clear k5
                    go_upto_region 16 with (fail)
                    go_cut [10] (fun s10 wx => s10 = .bool true ∧ Keeps Nil w2 wx)
                    case first =>
                      go_region_held3 (fun W => W.cell? ⟨b, off + k * 7, none⟩ = some (.int .u32 (l k).id) ∧ W.cell? ⟨b, off + k * 7 + 1, none⟩ = some (.int .i64 (l k).live) ∧ W.cell? ⟨b, off + k * 7 + 2, none⟩ = some (.int .i64 (l k).slots) ∧ W.cell? ⟨b, off + k * 7 + 3, none⟩ = some (.int .i64 (l k).age) ∧ W.cell? ⟨b, off + k * 7 + 4, none⟩ = some (.int .i64 (l k).erases) ∧ W.cell? ⟨b, off + k * 7 + 5, none⟩ = some (.int .i64 (l k).reads) ∧ W.cell? ⟨b, off + k * 7 + 6, none⟩ = some (.bool (l k).sick) ∧ W.cell? ⟨b, off + i * 7, none⟩ = some (.int .u32 (l i).id) ∧ W.cell? ⟨b, off + i * 7 + 1, none⟩ = some (.int .i64 (l i).live) ∧ W.cell? ⟨b, off + i * 7 + 2, none⟩ = some (.int .i64 (l i).slots) ∧ W.cell? ⟨b, off + i * 7 + 3, none⟩ = some (.int .i64 (l i).age) ∧ W.cell? ⟨b, off + i * 7 + 4, none⟩ = some (.int .i64 (l i).erases) ∧ W.cell? ⟨b, off + i * 7 + 5, none⟩ = some (.int .i64 (l i).reads) ∧ W.cell? ⟨b, off + i * 7 + 6, none⟩ = some (.bool (l i).sick))
                        (first | exact KS'.out _ ((k5'.out).drew) | exact KS'.out _ (((k5'.out).drew).trans hk4))
                        ((go_at_call 23; refine (above_val (l i) (l k) false _ qB.out).mono ?_; rintro e w4 ⟨rfl, hk4⟩))
                      all_goals
                        go_wp2_with fail
                        go_meet
                        exact ⟨rfl, ((k5'.out).drew).trans hk4⟩
                    case rest =>
                      obtain ⟨rfl, k6⟩ := hcut
                      have k6' := Lib.hid k6
                      have hc6 := KS'.out _ k6
                      have i0 := hc6.2.2.2.2.2.2.2.1
                      have j0 := hc6.1
                      clear k6 hc6
                      go_wp2_with fail
                      go_quiet (fail)
                      go_wp2_with fail
                      go_roundw
                      case rel => exact ⟨k + 1, by omega, by go_num, by rw [hb'.out]; rfl, ((hkp2'.out.trans k2'.out).trans k6'.out).drewN _⟩
                      case measure => simp [intOf]; omega
                · have qA := Lib.hid (show aboveB (l k) (l i) = false from decide_eq_false (by omega))
                  have qB := Lib.hid (show aboveB (l i) (l k) = false from decide_eq_false (fun hh => by have := (benef_ordr.anti (l i) (l k)).1 hh; omega))
                  have q3 : decide ((l k).id < (l i).id) = false := decide_eq_false (by omega)
                  have q4 : ((l k).id == (l i).id) = true := by simpa using h2
                  have q5 : decide (k < i) = false := decide_eq_false (by omega)
                  have hb' := Lib.hid (hnx.out.trans (congrArg Bool.not hb))
                  clear h1 h2 h3 hb
                  go_wp2_with fail
                  go_quiet ((go_at_call 22; exact Calls.quiet_of_same (in_any _ _)))
                  go_wp2_with fail
                  go_quiet ((go_at_call 22; exact quiet_more (in_any _ _)))
                  go_upto_region 15 with (fail)
                  go_cut [9] (fun s9 wx => s9 = .bool false ∧ Keeps Nil w2 wx)
                  case first =>
                    go_region_held3 (fun W => W.cell? ⟨b, off + k * 7, none⟩ = some (.int .u32 (l k).id) ∧ W.cell? ⟨b, off + k * 7 + 1, none⟩ = some (.int .i64 (l k).live) ∧ W.cell? ⟨b, off + k * 7 + 2, none⟩ = some (.int .i64 (l k).slots) ∧ W.cell? ⟨b, off + k * 7 + 3, none⟩ = some (.int .i64 (l k).age) ∧ W.cell? ⟨b, off + k * 7 + 4, none⟩ = some (.int .i64 (l k).erases) ∧ W.cell? ⟨b, off + k * 7 + 5, none⟩ = some (.int .i64 (l k).reads) ∧ W.cell? ⟨b, off + k * 7 + 6, none⟩ = some (.bool (l k).sick) ∧ W.cell? ⟨b, off + i * 7, none⟩ = some (.int .u32 (l i).id) ∧ W.cell? ⟨b, off + i * 7 + 1, none⟩ = some (.int .i64 (l i).live) ∧ W.cell? ⟨b, off + i * 7 + 2, none⟩ = some (.int .i64 (l i).slots) ∧ W.cell? ⟨b, off + i * 7 + 3, none⟩ = some (.int .i64 (l i).age) ∧ W.cell? ⟨b, off + i * 7 + 4, none⟩ = some (.int .i64 (l i).erases) ∧ W.cell? ⟨b, off + i * 7 + 5, none⟩ = some (.int .i64 (l i).reads) ∧ W.cell? ⟨b, off + i * 7 + 6, none⟩ = some (.bool (l i).sick))
                        (first | exact KS'.out _ (((Keeps.refl Nil w2).drewN _).drew) | exact KS'.out _ ((((Keeps.refl Nil w2).drewN _).drew).trans hk4))
                        ((go_at_call 23; refine (above_val (l k) (l i) false _ qA.out).mono ?_; rintro e w4 ⟨rfl, hk4⟩))
                    all_goals
                      go_wp2_with fail
                      go_meet
                      exact ⟨rfl, (((Keeps.refl Nil w2).drewN _).drew).trans hk4⟩
                  case rest =>
                    obtain ⟨rfl, k5⟩ := hcut
                    have k5' := Lib.hid k5
                    clear k5
                    go_upto_region 16 with (fail)
                    go_cut [10] (fun s10 wx => s10 = .bool true ∧ Keeps Nil w2 wx)
                    case first =>
                      go_region_held3 (fun W => W.cell? ⟨b, off + k * 7, none⟩ = some (.int .u32 (l k).id) ∧ W.cell? ⟨b, off + k * 7 + 1, none⟩ = some (.int .i64 (l k).live) ∧ W.cell? ⟨b, off + k * 7 + 2, none⟩ = some (.int .i64 (l k).slots) ∧ W.cell? ⟨b, off + k * 7 + 3, none⟩ = some (.int .i64 (l k).age) ∧ W.cell? ⟨b, off + k * 7 + 4, none⟩ = some (.int .i64 (l k).erases) ∧ W.cell? ⟨b, off + k * 7 + 5, none⟩ = some (.int .i64 (l k).reads) ∧ W.cell? ⟨b, off + k * 7 + 6, none⟩ = some (.bool (l k).sick) ∧ W.cell? ⟨b, off + i * 7, none⟩ = some (.int .u32 (l i).id) ∧ W.cell? ⟨b, off + i * 7 + 1, none⟩ = some (.int .i64 (l i).live) ∧ W.cell? ⟨b, off + i * 7 + 2, none⟩ = some (.int .i64 (l i).slots) ∧ W.cell? ⟨b, off + i * 7 + 3, none⟩ = some (.int .i64 (l i).age) ∧ W.cell? ⟨b, off + i * 7 + 4, none⟩ = some (.int .i64 (l i).erases) ∧ W.cell? ⟨b, off + i * 7 + 5, none⟩ = some (.int .i64 (l i).reads) ∧ W.cell? ⟨b, off + i * 7 + 6, none⟩ = some (.bool (l i).sick))
                        (first | exact KS'.out _ ((k5'.out).drew) | exact KS'.out _ (((k5'.out).drew).trans hk4))
                        ((go_at_call 23; refine (above_val (l i) (l k) false _ qB.out).mono ?_; rintro e w4 ⟨rfl, hk4⟩))
                      all_goals
                        go_wp2_with fail
                        go_meet
                        exact ⟨rfl, ((k5'.out).drew).trans hk4⟩
                    case rest =>
                      obtain ⟨rfl, k6⟩ := hcut
                      have k6' := Lib.hid k6
                      have hc6 := KS'.out _ k6
                      have i0 := hc6.2.2.2.2.2.2.2.1
                      have j0 := hc6.1
                      clear k6 hc6
                      go_wp2_with fail
                      go_quiet (fail)
                      go_wp2_with fail
                      go_roundw
                      case rel => exact ⟨k + 1, by omega, by go_num, by rw [hb'.out]; rfl, ((hkp2'.out.trans k2'.out).trans k6'.out).drewN _⟩
                      case measure => simp [intOf]; omega
          · have hke : k = n := by omega
            subst hke
            have hrel2 := Lib.hid (hrel.out.trans (refSel_yes hlt hok))
            have hok' := Lib.hid hok
            clear hok hrel
            have d1 : decide ((k : Int) < k) = false := decide_eq_false (by omega)
            go_wp2_with fail
            go_ret
            rw [hrel2.out]
            exact ⟨rfl, hkp2'.out⟩
    · have hrel2 := Lib.hid (hrel.out.trans (refSel_end (by omega)))
      clear hrel
      go_wp2_with fail
      go_ret
      rw [hrel2.out]
      exact ⟨rfl, hkp'.out⟩
end Go.Proofs.Ytiemfmkaofakoaa
