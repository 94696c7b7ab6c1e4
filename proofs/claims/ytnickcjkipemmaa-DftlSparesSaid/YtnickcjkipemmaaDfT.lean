/- DftlMakes: the walk -/
import Derived.Test.YtnickcjkipemmaaDfS
namespace Go.Proofs.Ytnickcjkipemmaa
open Go.RowKit

theorem lnew_bad (most : Int) (w : World) (h : most < 1) : Calls Try.prog 14 #[.int .i64 most] w fun e w' => e = .returned (.tuple #[.pointer none, .int .i64 1]) ∧ w' = w := by
  have d : decide (most < 1) = true := decide_eq_true h
  go_enter Try.func14, Try.ntmps14
  go_wp2_with fail
  go_ret2
  exact ⟨rfl, rfl⟩
set_option maxHeartbeats 2000000 in
set_option maxRecDepth 100000 in
theorem dnew_bad (p : Addr) (keys per most : Int) (w : World) (h : keys < 1 ∨ 4096 < keys ∨ per < 1 ∨ 1024 < per ∨ most < 1) :
    Calls Try.prog 30 #[.iface 61 (.pointer (some p)), .int .i64 keys, .int .i64 per, .int .i64 most] w fun e w' => e = .returned (.tuple #[.pointer none, .int .i64 1]) ∧ w' = w := by
  have hL := Lib.hid (lnew_bad most w)
  have h5 : keys < 1 ∨ (¬ keys < 1 ∧ 4096 < keys) ∨ (¬ keys < 1 ∧ ¬ 4096 < keys ∧ per < 1) ∨ (¬ keys < 1 ∧ ¬ 4096 < keys ∧ ¬ per < 1 ∧ 1024 < per) ∨ (¬ keys < 1 ∧ ¬ 4096 < keys ∧ ¬ per < 1 ∧ ¬ 1024 < per ∧ most < 1) := by omega
  clear h
  rcases h5 with h1 | ⟨h1, h2⟩ | ⟨h1, h2, h3⟩ | ⟨h1, h2, h3, h4⟩ | ⟨h1, h2, h3, h4, h5⟩
  · have d1 : decide (keys < 1) = true := decide_eq_true h1
    go_enter Try.func30, Try.ntmps30
    go_wp2_with fail
    go_ret2
    exact ⟨rfl, rfl⟩
  · have d1 : decide (keys < 1) = false := decide_eq_false h1
    have d2 : decide (4096 < keys) = true := decide_eq_true h2
    go_enter Try.func30, Try.ntmps30
    go_wp2_with fail
    go_ret2
    exact ⟨rfl, rfl⟩
  · have d1 : decide (keys < 1) = false := decide_eq_false h1
    have d2 : decide (4096 < keys) = false := decide_eq_false h2
    have d3 : decide (per < 1) = true := decide_eq_true h3
    go_enter Try.func30, Try.ntmps30
    go_wp2_with fail
    go_ret2
    exact ⟨rfl, rfl⟩
  · have d1 : decide (keys < 1) = false := decide_eq_false h1
    have d2 : decide (4096 < keys) = false := decide_eq_false h2
    have d3 : decide (per < 1) = false := decide_eq_false h3
    have d4 : decide (1024 < per) = true := decide_eq_true h4
    go_enter Try.func30, Try.ntmps30
    go_wp2_with fail
    go_ret2
    exact ⟨rfl, rfl⟩
  · have d1 : decide (keys < 1) = false := decide_eq_false h1
    have d2 : decide (4096 < keys) = false := decide_eq_false h2
    have d3 : decide (per < 1) = false := decide_eq_false h3
    have d4 : decide (1024 < per) = false := decide_eq_false h4
    have hL := Lib.hid (hL.out h5)
    go_enter Try.func30, Try.ntmps30
    go_wp2_with fail
    refine (hL.out).mono ?_
    rintro e w2 ⟨rfl, rfl⟩
    go_wp2_with fail
    go_ret2
    exact ⟨rfl, rfl⟩
theorem dnew_nil (keys per most : Int) (w : World) : Calls Try.prog 30 #[.nilIface, .int .i64 keys, .int .i64 per, .int .i64 most] w fun e w' => e = .returned (.tuple #[.pointer none, .int .i64 1]) ∧ w' = w := by
  go_enter Try.func30, Try.ntmps30
  go_wp2_with fail
  go_ret2
  exact ⟨rfl, rfl⟩
set_option maxHeartbeats 4000000 in
set_option maxRecDepth 100000 in
theorem makes_any (keys per most : Int) (w : World) (p0 : -9223372036854775808 ≤ per) (p1 : per ≤ 9223372036854775807) :
    Calls Try.prog 8 #[.int .i64 keys, .int .i64 per, .int .i64 most] w fun e w' => e = .returned (.bool true) ∧ Keeps Nil w w' := by
  obtain ⟨a, ha⟩ : ∃ a, absI per = a := ⟨_, rfl⟩
  have ha0 : 0 ≤ a := by rw [← ha]; exact absI_nonneg _
  have hA := Lib.hid (fun W => abs29 per a W p0 p1 ha)
  obtain ⟨q, hq⟩ : ∃ q : Nat, 1 + a % 9 = (q : Nat) := ⟨(1 + a % 9).toNat, by omega⟩
  have hq2 := Lib.hid (show 1 ≤ q ∧ q ≤ 1024 by omega)
  have ham : 0 ≤ a % 9 := by omega
  have ham2 : a % 9 ≤ 8 := by omega
  have hq' := Lib.hid hq
  clear ha hq
  have h6 : keys < 1 ∨ (¬ keys < 1 ∧ 4096 < keys) ∨ (¬ keys < 1 ∧ ¬ 4096 < keys ∧ per < 1) ∨ (¬ keys < 1 ∧ ¬ 4096 < keys ∧ ¬ per < 1 ∧ 1024 < per) ∨ (¬ keys < 1 ∧ ¬ 4096 < keys ∧ ¬ per < 1 ∧ ¬ 1024 < per ∧ most < 1) ∨ (¬ keys < 1 ∧ ¬ 4096 < keys ∧ ¬ per < 1 ∧ ¬ 1024 < per ∧ ¬ most < 1) := by omega
  rcases h6 with h1 | ⟨h1, h2⟩ | ⟨h1, h2, h3⟩ | ⟨h1, h2, h3, h4⟩ | ⟨h1, h2, h3, h4, h5⟩ | ⟨h1, h2, h3, h4, h5⟩
  · have d1 : decide (1 ≤ keys) = false := decide_eq_false (by omega)
    have hB := Lib.hid (fun p W => dnew_bad p keys per most W (by omega))
    clear h1
    go_enter Try.func8, Try.ntmps8
    go_wp2_with fail
    refine (awake27 w).mono ?_
    rintro e w1 ⟨rfl, hk1⟩
    have hk1' := Lib.hid hk1
    clear hk1
    go_wp2_with fail
    refine (hA.out _).mono ?_
    rintro e w2 ⟨rfl, rfl⟩
    go_wp2_with fail
    rw [hq'.out]
    refine (pnew_any q w1 hq2.out (numsAt_nil w1) (by simp)).mono ?_
    rintro e w2 ⟨pb, O, rfl, ⟨mb, f, wa, wc, hPg⟩, hk2, hO⟩
    have cc : w2.cell? ⟨pb, 2, none⟩ = some (.int .i64 0) := cell_of_heap hPg.blk 2
    have hk2' := Lib.hid hk2
    clear hPg hk2 hO
    go_wp2_with fail
    refine (hB.out _ _).mono ?_
    rintro e w3 ⟨rfl, rfl⟩
    go_wp2_with fail
    refine (dnew_nil 4 4 4 w3).mono ?_
    rintro e w4 ⟨rfl, rfl⟩
    go_wp2_with fail
    go_ret
    exact ⟨rfl, hk1'.out.trans hk2'.out⟩
  · have d1 : decide (1 ≤ keys) = true := decide_eq_true (by omega)
    have d2 : decide (keys ≤ 4096) = false := decide_eq_false (by omega)
    have hB := Lib.hid (fun p W => dnew_bad p keys per most W (by omega))
    clear h1 h2
    go_enter Try.func8, Try.ntmps8
    go_wp2_with fail
    refine (awake27 w).mono ?_
    rintro e w1 ⟨rfl, hk1⟩
    have hk1' := Lib.hid hk1
    clear hk1
    go_wp2_with fail
    refine (hA.out _).mono ?_
    rintro e w2 ⟨rfl, rfl⟩
    go_wp2_with fail
    rw [hq'.out]
    refine (pnew_any q w1 hq2.out (numsAt_nil w1) (by simp)).mono ?_
    rintro e w2 ⟨pb, O, rfl, ⟨mb, f, wa, wc, hPg⟩, hk2, hO⟩
    have cc : w2.cell? ⟨pb, 2, none⟩ = some (.int .i64 0) := cell_of_heap hPg.blk 2
    have hk2' := Lib.hid hk2
    clear hPg hk2 hO
    go_wp2_with fail
    refine (hB.out _ _).mono ?_
    rintro e w3 ⟨rfl, rfl⟩
    go_wp2_with fail
    refine (dnew_nil 4 4 4 w3).mono ?_
    rintro e w4 ⟨rfl, rfl⟩
    go_wp2_with fail
    go_ret
    exact ⟨rfl, hk1'.out.trans hk2'.out⟩
  · have d1 : decide (1 ≤ keys) = true := decide_eq_true (by omega)
    have d2 : decide (keys ≤ 4096) = true := decide_eq_true (by omega)
    have d3 : decide (1 ≤ per) = false := decide_eq_false (by omega)
    have hB := Lib.hid (fun p W => dnew_bad p keys per most W (by omega))
    clear h1 h2 h3
    go_enter Try.func8, Try.ntmps8
    go_wp2_with fail
    refine (awake27 w).mono ?_
    rintro e w1 ⟨rfl, hk1⟩
    have hk1' := Lib.hid hk1
    clear hk1
    go_wp2_with fail
    refine (hA.out _).mono ?_
    rintro e w2 ⟨rfl, rfl⟩
    go_wp2_with fail
    rw [hq'.out]
    refine (pnew_any q w1 hq2.out (numsAt_nil w1) (by simp)).mono ?_
    rintro e w2 ⟨pb, O, rfl, ⟨mb, f, wa, wc, hPg⟩, hk2, hO⟩
    have cc : w2.cell? ⟨pb, 2, none⟩ = some (.int .i64 0) := cell_of_heap hPg.blk 2
    have hk2' := Lib.hid hk2
    clear hPg hk2 hO
    go_wp2_with fail
    refine (hB.out _ _).mono ?_
    rintro e w3 ⟨rfl, rfl⟩
    go_wp2_with fail
    refine (dnew_nil 4 4 4 w3).mono ?_
    rintro e w4 ⟨rfl, rfl⟩
    go_wp2_with fail
    go_ret
    exact ⟨rfl, hk1'.out.trans hk2'.out⟩
  · have d1 : decide (1 ≤ keys) = true := decide_eq_true (by omega)
    have d2 : decide (keys ≤ 4096) = true := decide_eq_true (by omega)
    have d3 : decide (1 ≤ per) = true := decide_eq_true (by omega)
    have d4 : decide (per ≤ 1024) = false := decide_eq_false (by omega)
    have hB := Lib.hid (fun p W => dnew_bad p keys per most W (by omega))
    clear h1 h2 h3 h4
    go_enter Try.func8, Try.ntmps8
    go_wp2_with fail
    refine (awake27 w).mono ?_
    rintro e w1 ⟨rfl, hk1⟩
    have hk1' := Lib.hid hk1
    clear hk1
    go_wp2_with fail
    refine (hA.out _).mono ?_
    rintro e w2 ⟨rfl, rfl⟩
    go_wp2_with fail
    rw [hq'.out]
    refine (pnew_any q w1 hq2.out (numsAt_nil w1) (by simp)).mono ?_
    rintro e w2 ⟨pb, O, rfl, ⟨mb, f, wa, wc, hPg⟩, hk2, hO⟩
    have cc : w2.cell? ⟨pb, 2, none⟩ = some (.int .i64 0) := cell_of_heap hPg.blk 2
    have hk2' := Lib.hid hk2
    clear hPg hk2 hO
    go_wp2_with fail
    refine (hB.out _ _).mono ?_
    rintro e w3 ⟨rfl, rfl⟩
    go_wp2_with fail
    refine (dnew_nil 4 4 4 w3).mono ?_
    rintro e w4 ⟨rfl, rfl⟩
    go_wp2_with fail
    go_ret
    exact ⟨rfl, hk1'.out.trans hk2'.out⟩
  · have d1 : decide (1 ≤ keys) = true := decide_eq_true (by omega)
    have d2 : decide (keys ≤ 4096) = true := decide_eq_true (by omega)
    have d3 : decide (1 ≤ per) = true := decide_eq_true (by omega)
    have d4 : decide (per ≤ 1024) = true := decide_eq_true (by omega)
    have d5 : decide (1 ≤ most) = false := decide_eq_false (by omega)
    have hB := Lib.hid (fun p W => dnew_bad p keys per most W (by omega))
    clear h1 h2 h3 h4 h5
    go_enter Try.func8, Try.ntmps8
    go_wp2_with fail
    refine (awake27 w).mono ?_
    rintro e w1 ⟨rfl, hk1⟩
    have hk1' := Lib.hid hk1
    clear hk1
    go_wp2_with fail
    refine (hA.out _).mono ?_
    rintro e w2 ⟨rfl, rfl⟩
    go_wp2_with fail
    rw [hq'.out]
    refine (pnew_any q w1 hq2.out (numsAt_nil w1) (by simp)).mono ?_
    rintro e w2 ⟨pb, O, rfl, ⟨mb, f, wa, wc, hPg⟩, hk2, hO⟩
    have cc : w2.cell? ⟨pb, 2, none⟩ = some (.int .i64 0) := cell_of_heap hPg.blk 2
    have hk2' := Lib.hid hk2
    clear hPg hk2 hO
    go_wp2_with fail
    refine (hB.out _ _).mono ?_
    rintro e w3 ⟨rfl, rfl⟩
    go_wp2_with fail
    refine (dnew_nil 4 4 4 w3).mono ?_
    rintro e w4 ⟨rfl, rfl⟩
    go_wp2_with fail
    go_ret
    exact ⟨rfl, hk1'.out.trans hk2'.out⟩
  · have d1 : decide (1 ≤ keys) = true := decide_eq_true (by omega)
    have d2 : decide (keys ≤ 4096) = true := decide_eq_true (by omega)
    have d3 : decide (1 ≤ per) = true := decide_eq_true (by omega)
    have d4 : decide (per ≤ 1024) = true := decide_eq_true (by omega)
    have d5 : decide (1 ≤ most) = true := decide_eq_true (by omega)
    have hB := Lib.hid (fun p W => new_raw p keys per most W (by omega) (by omega) (by omega))
    clear h1 h2 h3 h4 h5
    go_enter Try.func8, Try.ntmps8
    go_wp2_with fail
    refine (awake27 w).mono ?_
    rintro e w1 ⟨rfl, hk1⟩
    have hk1' := Lib.hid hk1
    clear hk1
    go_wp2_with fail
    refine (hA.out _).mono ?_
    rintro e w2 ⟨rfl, rfl⟩
    go_wp2_with fail
    rw [hq'.out]
    refine (pnew_any q w1 hq2.out (numsAt_nil w1) (by simp)).mono ?_
    rintro e w2 ⟨pb, O, rfl, ⟨mb, f, wa, wc, hPg⟩, hk2, hO⟩
    have cc : w2.cell? ⟨pb, 2, none⟩ = some (.int .i64 0) := cell_of_heap hPg.blk 2
    have hk2' := Lib.hid hk2
    clear hPg hk2 hO
    go_wp2_with fail
    refine (hB.out _ _).mono ?_
    rintro e w3 ⟨db, cb, OL, rfl, _, _, hk3, _⟩
    have cc := hk3.cell cc (fun h => h)
    have hk3' := Lib.hid hk3
    clear hk3
    go_wp2_with fail
    refine (dnew_nil 4 4 4 w3).mono ?_
    rintro e w4 ⟨rfl, rfl⟩
    go_wp2_with fail
    go_ret
    exact ⟨rfl, (hk1'.out.trans hk2'.out).trans hk3'.out⟩
end Go.Proofs.Ytnickcjkipemmaa
