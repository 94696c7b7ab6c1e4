/- nand: awake -/
import Derived.Test.YtglpacdenfoicaaNeI
namespace Go.Proofs.Ytglpacdenfoicaa
open Go.RowKit

theorem cS_fits : FitsI cS.dies cS.blocks cS.pages cS.bytes := ⟨by decide, by decide, by decide, by decide, by decide⟩
/-- the literal faults of a law: one, without bits -/
theorem fts_lit (w : World) {f : Ft} (hb : f.bits = []) (hp : f.part ≤ 9223372036854775807 ∧ f.times ≤ 9223372036854775807) {fr : Nat × Nat} :
    FtsAt (w.alloc (.cells #[.int .i64 f.kind, .int .i64 f.time, .int .i64 f.die, .int .i64 f.block, .int .i64 f.page, .int .i64 f.times, .int .i64 f.part, .slice none 0 0] 33 fr)) (some ⟨w.heap.size, 0, none⟩) [⟨f, none, 0⟩] := by
  refine ⟨?_, ?_, ?_⟩
  · intro k x hx
    cases k with
    | succ k => simp at hx
    | zero =>
      simp only [List.getElem?_cons_zero, Option.some.injEq] at hx
      subst hx
      refine ⟨_, 0, rfl, ?_⟩
      intro j v hj
      rw [cell_of_heap (heap_alloc_new w _)]
      simp only [Nat.zero_mul, Nat.zero_add, List.getElem?_toArray]
      rw [← hj]
      unfold encF
      rw [hb]
      rfl
  · intro x hx
    rw [List.mem_singleton] at hx
    subst hx
    show NumsAt .i64 _ none f.bits ∧ (none = none → 0 = 0 ∧ f.bits.length = 0) ∧ f.bits.length * 8 ≤ _
    rw [hb]
    exact ⟨fun j hj => absurd hj (Nat.not_lt_zero _), fun _ => ⟨rfl, rfl⟩, by decide⟩
  · intro x hx
    rw [List.mem_singleton] at hx
    subst hx
    exact hp
set_option maxHeartbeats 4000000 in
set_option maxRecDepth 100000 in
theorem awake10 (w : World) : Calls Try.prog 10 #[] w fun e w' => e = .returned (.bool true) ∧ Keeps Nil w w' := by
  have hNew := Lib.hid (newI_ok (S := cS) (fc := 1) (w0 := w) ((Keeps.refl Nil w).alloc (.cells #[.int .i64 5, .int .i64 2, .int .i64 0, .int .i64 0, .int .i64 0, .int .i64 0, .int .i64 1, .slice none 0 0] 33)) cS_fits (fts_lit w (f := cF) rfl (by decide)) (by decide) (by decide))
  have hcc := fun (w : World) (C : Array Value) (n c : Nat) => Lib.run_convert_bytes_const (P := Try.prog) w 22 5 C n c Try.underlying22 Try.underlying5
  go_enter Try.func10, Try.ntmps10
  go_wp2_with fail
  refine (hNew.out).mono ?_
  rintro e w1 ⟨ab, O, rfl, hN, -, -⟩
  have hN1 := Lib.hid hN
  clear hN hNew
  go_wp2_with fail
  refine (prog_lit (c := 2) hN1.out (by decide) 0 0 0 [97, 98] cA1_r rfl (by decide)).mono ?_
  rintro e w2 ⟨rfl, O2, hN2, -, -⟩
  have hN2' := Lib.hid hN2
  clear hN2 hN1
  go_wp2_with fail
  refine (readI_any hN2'.out (by decide) 0 0 0).mono ?_
  rintro e w3 ⟨v3, rfl, O3, hN3, -, -, hv3⟩
  rw [cA2_o] at hv3
  rw [cA2_r]
  obtain ⟨g3, c3, rfl, hr3, hg3, hg3o⟩ := hv3
  have hN3' := Lib.hid hN3
  have hr3' := Lib.hid (show NumRow .u8 w3 5 (some ⟨g3, 0, none⟩) c3 [97, 98] ∧ g3 < w3.heap.size ∧ ¬ O3 g3 from ⟨hr3, RowAt.lt hr3 rfl, hg3o⟩)
  clear hN3 hN2' hr3 hg3 hg3o
  go_wp2_with fail
  refine (prog_lit (c := 2) hN3'.out (by decide) 0 0 1 [99, 100] cA3_r rfl (by decide)).mono ?_
  rintro e w4 ⟨rfl, O4, hN4, k4, hO4⟩
  have hN4' := Lib.hid hN4
  have hr4' := Lib.hid (show NumRow .u8 w4 5 (some ⟨g3, 0, none⟩) c3 [97, 98] ∧ ¬ O4 g3 ∧ g3 < w4.heap.size from by
    obtain ⟨q1, q2, q3⟩ := hr3'.out
    have q4 := q1.keeps ((Keeps.refl Nil w3).alloc (.cells #[.int .u8 99, .int .u8 100] 5 (2, 3))) (fun _ _ h => h)
    have q5 := q4.keeps k4 (fun g hg => by cases hg; exact q3)
    refine ⟨q5, fun h => ?_, RowAt.lt q5 rfl⟩
    rcases hO4 _ h with h1 | h1
    · exact q3 h1
    · have : w3.heap.size ≤ (w3.alloc (.cells #[.int .u8 99, .int .u8 100] 5 (2, 3))).heap.size := by simp
      exact absurd h1 (by simp; omega))
  clear hN4 k4 hO4 hN3' hr3'
  go_wp2_with fail
  refine (powerI_any hN4'.out).mono ?_
  rintro e w5 ⟨rfl, h5⟩
  rw [h5, cA3_o]
  clear h5 w5
  go_wp2_with fail
  refine (onI_any hN4'.out).mono ?_
  rintro e w5 ⟨rfl, hN5, k5⟩
  have hN5' := Lib.hid hN5
  have hr5' := Lib.hid (show NumRow .u8 w5 5 (some ⟨g3, 0, none⟩) c3 [97, 98] ∧ ¬ O4 g3 from ⟨hr4'.out.1.keeps k5 (fun g hg => by cases hg; exact hr4'.out.2.1), hr4'.out.2.1⟩)
  clear hN5 hN4' hr4' k5
  go_wp2_with fail
  refine (readI_any hN5'.out (by decide) 0 0 1).mono ?_
  rintro e w6 ⟨v6, rfl, O6, hN6, k6, -, hv6⟩
  rw [show ({ cA3 with off := false } : Nd) = cA4 from rfl] at hN6 hv6 ⊢
  rw [cA5_o] at hv6
  rw [cA5_r]
  obtain ⟨g6, c6, rfl, hr6, -, -⟩ := hv6
  have hs1 : (convert 22 9 (.slice (some ⟨g3, 0, none⟩) 2 c3)).run Try.prog w6 = .ok (.string ⟨#[97, 98]⟩) w6 := run_str (d := [97, 98]) (hr5'.out.1.keeps k6 (fun g hg => by cases hg; exact hr5'.out.2)).nums
  have hs2 : (convert 22 9 (.slice (some ⟨g6, 0, none⟩) 2 c6)).run Try.prog w6 = .ok (.string ⟨#[99, 255]⟩) w6 := run_str (d := [99, 255]) hr6.nums
  have hN6' := Lib.hid hN6
  clear hN6 hN5' hr5' k6 hr6
  go_wp2_with fail
  refine (nextI_any hN6'.out 0 0).mono ?_
  rintro e w7 ⟨rfl, h7⟩
  rw [h7, show (cA4.readI 0 0 1).2 = cA5 from rfl, cA5_n]
  clear h7 w7
  go_wp2_with fail
  refine (opsI_any hN6'.out).mono ?_
  rintro e w7 ⟨rfl, h7⟩
  rw [h7, show (cA4.readI 0 0 1).2 = cA5 from rfl, cA5_p]
  clear h7 w7
  go_wp2_with fail
  go_ret
  exact ⟨rfl, hN6'.out.keep⟩
end Go.Proofs.Ytglpacdenfoicaa
