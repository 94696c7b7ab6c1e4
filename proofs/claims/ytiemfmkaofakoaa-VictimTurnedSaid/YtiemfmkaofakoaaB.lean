/- the comparing closures -/
import Derived.Test.YtiemfmkaofakoaaA
namespace Go.Proofs.Ytiemfmkaofakoaa
open Go.RowKit

abbrev supV (s : Sup) : Value := .agg #[.int .u32 s.id, .int .i64 s.live, .int .i64 s.slots, .int .i64 s.age, .int .i64 s.erases, .int .i64 s.reads, .bool s.sick]

set_option maxHeartbeats 400000 in
theorem greedy_any (s t : Sup) (w : World) : Calls Try.prog 16 #[supV s, supV t] w fun e w' => e = .returned (.int .i64 (greedy s t)) ∧ Keeps Nil w w' := by
  unfold greedy
  go_enter Try.func16, Try.ntmps16
  go_wp2_with fail
  go_quiet (first | (go_at_call 18; exact Calls.quiet_of_same (within_any _ _)) | (go_at_call 17; exact Calls.quiet_of_same (cmp_any _ _ _)))
  go_wp2
  go_ret
  exact ⟨rfl, (((Keeps.refl _ _).alloc _).alloc _).drewN _⟩

theorem wrap_ok (x : Int) (h : -9223372036854775808 ≤ x ∧ x ≤ 9223372036854775807) : IntKind.i64.wrap x = x := by rw [IntKind.wrap_i64]; omega
theorem mul_rng {x y A B : Int} (hx0 : -A ≤ x) (hx1 : x ≤ A) (hy0 : 0 ≤ y) (hy1 : y ≤ B) (hA : 0 ≤ A) : -(A * B) ≤ x * y ∧ x * y ≤ A * B := by
  constructor
  · have h1 : -x * y ≤ A * B := Int.le_trans (Int.mul_le_mul_of_nonneg_right (show -x ≤ A by omega) hy0) (Int.mul_le_mul_of_nonneg_left hy1 hA)
    have h2 : -x * y = -(x * y) := Int.neg_mul x y
    omega
  · exact Int.le_trans (Int.mul_le_mul_of_nonneg_right hx1 hy0) (Int.mul_le_mul_of_nonneg_left hy1 hA)
theorem num_rng (a : Sup) : -1099511627776 ≤ num a ∧ num a ≤ 1099511627776 := by
  have h1 := inn_rng a.slots
  have h2 := inn_rng a.live
  have h3 := inn_rng a.age
  exact mul_rng (A := 1048576) (B := 1048576) (by omega) (by omega) h3.1 h3.2 (by omega)
theorem cross_rng (a b : Sup) : -2305843009213693952 ≤ num a * den b ∧ num a * den b ≤ 2305843009213693952 := by
  have h1 := num_rng a
  have h2 := den_nn b
  exact mul_rng (A := 1099511627776) (B := 2097152) (by omega) (by omega) h2.1 h2.2 (by omega)

set_option maxHeartbeats 1000000 in
theorem benefit_any (s t : Sup) (w : World) : Calls Try.prog 19 #[supV s, supV t] w fun e w' => e = .returned (.int .i64 (benef s t)) ∧ Keeps Nil w w' := by
  have i1 := inn_rng s.slots
  have i2 := inn_rng s.live
  have i4 := inn_rng t.slots
  have i5 := inn_rng t.live
  have w1 : IntKind.i64.wrap (inn s.slots - inn s.live) = inn s.slots - inn s.live := wrap_ok _ (by omega)
  have w2 : IntKind.i64.wrap ((inn s.slots - inn s.live) * inn s.age) = num s := wrap_ok _ (by have := num_rng s; unfold num at this; omega)
  have w3 : IntKind.i64.wrap (2 * inn s.live) = den s := wrap_ok _ (by omega)
  have w4 : IntKind.i64.wrap (inn t.slots - inn t.live) = inn t.slots - inn t.live := wrap_ok _ (by omega)
  have w5 : IntKind.i64.wrap ((inn t.slots - inn t.live) * inn t.age) = num t := wrap_ok _ (by have := num_rng t; unfold num at this; omega)
  have w6 : IntKind.i64.wrap (2 * inn t.live) = den t := wrap_ok _ (by omega)
  have w7 : IntKind.i64.wrap (num t * den s) = num t * den s := wrap_ok _ (by have := cross_rng t s; omega)
  have w8 : IntKind.i64.wrap (num s * den t) = num s * den t := wrap_ok _ (by have := cross_rng s t; omega)
  clear i1 i2 i4 i5
  have hk := Lib.hid (((Keeps.refl Nil w).alloc (.cells #[.int .u32 s.id, .int .i64 s.live, .int .i64 s.slots, .int .i64 s.age, .int .i64 s.erases, .int .i64 s.reads, .bool s.sick] 30)).alloc (.cells #[.int .u32 t.id, .int .i64 t.live, .int .i64 t.slots, .int .i64 t.age, .int .i64 t.erases, .int .i64 t.reads, .bool t.sick] 30))
  have hcase : (den s = 0 ∧ benef s t = cmpI (den s) (den t)) ∨ (¬ den s = 0 ∧ den t = 0 ∧ benef s t = cmpI (den s) (den t)) ∨ (¬ den s = 0 ∧ ¬ den t = 0 ∧ benef s t = cmpI (num t * den s) (num s * den t)) := by
    unfold benef
    by_cases h1 : den s = 0
    · left; exact ⟨h1, if_pos (.inl h1)⟩
    · by_cases h2 : den t = 0
      · right; left; exact ⟨h1, h2, if_pos (.inr h2)⟩
      · right; right; exact ⟨h1, h2, if_neg (by omega)⟩
  rcases hcase with ⟨h1, h3⟩ | ⟨h1, h2, h3⟩ | ⟨h1, h2, h3⟩
  · have e1 : (den s == 0) = true := by simpa using h1
    have h3' := Lib.hid h3
    clear h1 h3
    go_enter Try.func19, Try.ntmps19
    go_wp2_with fail
    go_quiet ((go_at_call 18; exact Calls.quiet_of_same (within_any _ _)))
    go_wp2_with fail
    go_quiet ((go_at_call 18; exact quiet_more (within_any _ _)))
    go_wp2_with (go_at_call 17; refine (cmp_any _ _ _).mono ?_; rintro e w' ⟨rfl, rfl⟩)
    go_ret
    rw [h3'.out]
    exact ⟨rfl, hk.out.drewN _⟩
  · have e1 : (den s == 0) = false := by simpa using h1
    have e2 : (den t == 0) = true := by simpa using h2
    have h3' := Lib.hid h3
    clear h1 h2 h3
    go_enter Try.func19, Try.ntmps19
    go_wp2_with fail
    go_quiet ((go_at_call 18; exact Calls.quiet_of_same (within_any _ _)))
    go_wp2_with fail
    go_quiet ((go_at_call 18; exact quiet_more (within_any _ _)))
    go_wp2_with (go_at_call 17; refine (cmp_any _ _ _).mono ?_; rintro e w' ⟨rfl, rfl⟩)
    go_ret
    rw [h3'.out]
    exact ⟨rfl, hk.out.drewN _⟩
  · have e1 : (den s == 0) = false := by simpa using h1
    have e2 : (den t == 0) = false := by simpa using h2
    have h3' := Lib.hid h3
    clear h1 h2 h3
    go_enter Try.func19, Try.ntmps19
    go_wp2_with fail
    go_quiet ((go_at_call 18; exact Calls.quiet_of_same (within_any _ _)))
    go_wp2_with fail
    go_quiet ((go_at_call 18; exact quiet_more (within_any _ _)))
    go_wp2_with (go_at_call 17; refine (cmp_any _ _ _).mono ?_; rintro e w' ⟨rfl, rfl⟩)
    go_ret
    rw [h3'.out]
    exact ⟨rfl, hk.out.drewN _⟩

/-- the cold ones: worn little enough -/
def mayC (worn spread : Int) (s : Sup) : Bool := decide (inn s.erases + inn spread < inn worn)

set_option maxHeartbeats 1000000 in
theorem mayC_any (gs gw : Nat) (worn spread : Int) (s : Sup) (w : World) (h1 : w.cell? ⟨gs, 0, none⟩ = some (.int .i64 spread)) (h2 : w.cell? ⟨gw, 0, none⟩ = some (.int .i64 worn)) :
    Calls Try.prog 24 #[supV s, .pointer (some ⟨gs, 0, none⟩), .pointer (some ⟨gw, 0, none⟩)] w fun e w' => e = .returned (.bool (mayC worn spread s)) ∧ Keeps Nil w w' := by
  have i1 := inn_rng s.erases
  have i2 := inn_rng spread
  have w1 : IntKind.i64.wrap (inn s.erases + inn spread) = inn s.erases + inn spread := wrap_ok _ (by omega)
  have hl1 := lt_of_cell h1
  have hl2 := lt_of_cell h2
  clear i1 i2
  unfold mayC
  go_enter Try.func24, Try.ntmps24
  go_wp2_with fail
  go_quiet ((go_at_call 18; exact Calls.quiet_of_same (within_any _ _)))
  go_wp2
  go_ret
  exact ⟨rfl, ((Keeps.refl _ _).alloc _).drewN _⟩

set_option maxHeartbeats 400000 in
theorem coldc_any (s t : Sup) (w : World) : Calls Try.prog 25 #[supV s, supV t] w fun e w' => e = .returned (.int .i64 (coldc s t)) ∧ Keeps Nil w w' := by
  unfold coldc
  go_enter Try.func25, Try.ntmps25
  go_wp2_with fail
  go_quiet (first | (go_at_call 18; exact Calls.quiet_of_same (within_any _ _)) | (go_at_call 17; exact Calls.quiet_of_same (cmp_any _ _ _)))
  go_wp2
  go_ret
  exact ⟨rfl, (((Keeps.refl _ _).alloc _).alloc _).drewN _⟩

set_option maxHeartbeats 400000 in
theorem sickb_any (s : Sup) (w : World) : Calls Try.prog 27 #[supV s] w fun e w' => e = .returned (.bool s.sick) ∧ Keeps Nil w w' := by
  go_enter Try.func27, Try.ntmps27
  go_wp2
  go_ret
  exact ⟨rfl, (Keeps.refl _ _).alloc _⟩
end Go.Proofs.Ytiemfmkaofakoaa
