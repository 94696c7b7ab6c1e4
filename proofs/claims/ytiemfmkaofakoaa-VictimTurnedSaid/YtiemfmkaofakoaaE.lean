/- the reference: above, Cold, Sick -/
import Derived.Test.YtiemfmkaofakoaaD2
import Derived.Deep.DeepCutAuto
namespace Go.Proofs.Ytiemfmkaofakoaa
open Go.RowKit

def aboveB (a b : Sup) : Bool := decide (benef a b < 0)
theorem above_small {a b : Sup} (h : inn a.live = 0 ∨ inn b.live = 0) : aboveB a b = decide (inn a.live < inn b.live) := by
  unfold aboveB benef
  rw [if_pos (by unfold den; omega)]
  unfold cmpI den
  have h1 := inn_rng a.live
  have h2 := inn_rng b.live
  by_cases e : inn a.live < inn b.live
  · rw [decide_eq_true e, decide_eq_true]; rw [if_pos (by omega)]; omega
  · rw [decide_eq_false e, decide_eq_false]; rw [if_neg (by omega)]; split <;> omega
theorem above_big {a b : Sup} (h1 : ¬ inn a.live = 0) (h2 : ¬ inn b.live = 0) : aboveB a b = decide (num b * den a < num a * den b) := by
  unfold aboveB benef
  rw [if_neg (by unfold den; omega)]
  unfold cmpI
  by_cases e : num b * den a < num a * den b
  · rw [decide_eq_true e, decide_eq_true]; rw [if_pos e]; omega
  · rw [decide_eq_false e, decide_eq_false]; rw [if_neg e]; split <;> omega

set_option maxHeartbeats 2000000 in
theorem above_any (s t : Sup) (w : World) : Calls Try.prog 23 #[supV s, supV t] w fun e w' => e = .returned (.bool (aboveB s t)) ∧ Keeps Nil w w' := by
  have i1 := inn_rng s.slots
  have i2 := inn_rng s.live
  have i4 := inn_rng t.slots
  have i5 := inn_rng t.live
  have n1 := num_rng s
  have n2 := num_rng t
  have m1 := cross_rng s t
  have m2 := cross_rng t s
  have w1 : IntKind.i64.wrap (inn s.slots - inn s.live) = inn s.slots - inn s.live := wrap_ok _ (by omega)
  have w2 : IntKind.i64.wrap ((inn s.slots - inn s.live) * inn s.age) = num s := wrap_ok _ (by unfold num at n1; omega)
  have w3 : IntKind.i64.wrap (num s * 2) = num s * 2 := wrap_ok _ (by omega)
  have e3 : num s * 2 * inn t.live = num s * den t := by unfold den; rw [Int.mul_assoc]
  have w4 : IntKind.i64.wrap (num s * 2 * inn t.live) = num s * den t := by rw [e3]; exact wrap_ok _ (by omega)
  have w5 : IntKind.i64.wrap (inn t.slots - inn t.live) = inn t.slots - inn t.live := wrap_ok _ (by omega)
  have w6 : IntKind.i64.wrap ((inn t.slots - inn t.live) * inn t.age) = num t := wrap_ok _ (by unfold num at n2; omega)
  have w7 : IntKind.i64.wrap (num t * 2) = num t * 2 := wrap_ok _ (by omega)
  have e7 : num t * 2 * inn s.live = num t * den s := by unfold den; rw [Int.mul_assoc]
  have w8 : IntKind.i64.wrap (num t * 2 * inn s.live) = num t * den s := by rw [e7]; exact wrap_ok _ (by omega)
  clear i1 i2 i4 i5 n1 n2 m1 m2 e3 e7
  have hk := Lib.hid (((Keeps.refl Nil w).alloc (.cells #[.int .u32 s.id, .int .i64 s.live, .int .i64 s.slots, .int .i64 s.age, .int .i64 s.erases, .int .i64 s.reads, .bool s.sick] 30)).alloc (.cells #[.int .u32 t.id, .int .i64 t.live, .int .i64 t.slots, .int .i64 t.age, .int .i64 t.erases, .int .i64 t.reads, .bool t.sick] 30))
  have hcase : (inn s.live = 0 ∧ aboveB s t = decide (inn s.live < inn t.live)) ∨ (¬ inn s.live = 0 ∧ inn t.live = 0 ∧ aboveB s t = decide (inn s.live < inn t.live)) ∨ (¬ inn s.live = 0 ∧ ¬ inn t.live = 0 ∧ aboveB s t = decide (num t * den s < num s * den t)) := by
    by_cases h1 : inn s.live = 0
    · exact .inl ⟨h1, above_small (.inl h1)⟩
    · by_cases h2 : inn t.live = 0
      · exact .inr (.inl ⟨h1, h2, above_small (.inr h2)⟩)
      · exact .inr (.inr ⟨h1, h2, above_big h1 h2⟩)
  rcases hcase with ⟨h1, h3⟩ | ⟨h1, h2, h3⟩ | ⟨h1, h2, h3⟩
  · have e1 : (inn s.live == 0) = true := by simpa using h1
    have h3' := Lib.hid h3
    clear h1 h3
    go_enter Try.func23, Try.ntmps23
    go_wp2_with (go_at_call 22; refine (in_any _ _).mono ?_; rintro e w' ⟨rfl, rfl⟩)
    go_quiet ((go_at_call 22; exact Calls.quiet_of_same (in_any _ _)))
    go_wp2_with fail
    go_ret
    rw [h3'.out]
    exact ⟨rfl, hk.out.drewN _⟩
  · have e1 : (inn s.live == 0) = false := by simpa using h1
    have e2 : (inn t.live == 0) = true := by simpa using h2
    have h3' := Lib.hid h3
    clear h1 h2 h3
    go_enter Try.func23, Try.ntmps23
    go_wp2_with (go_at_call 22; refine (in_any _ _).mono ?_; rintro e w' ⟨rfl, rfl⟩)
    go_quiet ((go_at_call 22; exact Calls.quiet_of_same (in_any _ _)))
    go_wp2_with fail
    go_ret
    rw [h3'.out]
    exact ⟨rfl, hk.out.drewN _⟩
  · have e1 : (inn s.live == 0) = false := by simpa using h1
    have e2 : (inn t.live == 0) = false := by simpa using h2
    have h3' := Lib.hid h3
    clear h1 h2 h3
    go_enter Try.func23, Try.ntmps23
    go_wp2_with (go_at_call 22; refine (in_any _ _).mono ?_; rintro e w' ⟨rfl, rfl⟩)
    go_quiet ((go_at_call 22; exact Calls.quiet_of_same (in_any _ _)))
    go_wp2_with fail
    go_quiet ((go_at_call 22; exact quiet_more (in_any _ _)))
    go_wp2_with fail
    go_ret
    rw [h3'.out]
    exact ⟨rfl, hk.out.drewN _⟩
end Go.Proofs.Ytiemfmkaofakoaa
