/- DftlPlays: a row of the map that has grown; small facts -/
import Derived.Test.YtnickcjkipemmaaDfW
namespace Go.Proofs.Ytnickcjkipemmaa
open Go.RowKit

/-- a number is appended to a row -/
theorem row_grown {w5 w4 w6 : World} {g0 : Nat} {l : List Int} {x : Int} {a : Option Addr} {cap : Nat} {lt : Prop} (hlt : lt) (hk : Keeps Nil w5 w4)
    (hr : RowAt w6 30 1 a (l.length + 1) cap (ncells l ++ [.int .u64 x])) (hk6 : Keeps (fun k => blk (some ⟨g0, 0, none⟩) = some k) w4 w6) (hb : blk a = blk (some ⟨g0, 0, none⟩) ∨ blk a = some w4.heap.size ∧ w4.heap.size < w6.heap.size) :
    ∃ g, a = some ⟨g, 0, none⟩ ∧ RowAt w6 30 1 (some ⟨g, 0, none⟩) (l ++ [x]).length cap (ncells (l ++ [x])) ∧ Keeps (fun j => lt ∧ j = g0) w5 w6 ∧ ((lt ∧ g = g0) ∨ w5.heap.size ≤ g) := by
  rcases RowAt.form hr with ⟨_, h2, _⟩ | ⟨g, cur, rfl, _⟩
  · omega
  · refine ⟨g, rfl, ?_, ?_, ?_⟩
    · rw [List.length_append]
      have e : ncells (l ++ [x]) = ncells l ++ [.int .u64 x] := by simp [ncells]
      rw [e]; exact hr
    · refine (hk.mono (fun _ h => h.elim)).trans (hk6.mono (fun j hj => ⟨hlt, ?_⟩))
      simp [blk] at hj; exact hj.symm
    · rcases hb with h | ⟨h, _⟩
      · simp [blk] at h; exact .inl ⟨hlt, h⟩
      · simp [blk] at h; right; have := hk.size; omega
theorem row_ne_map {w : World} {g mb n c : Nat} {xs : List Value} {f : List (Int × Value)} (hr : RowAt w 30 1 (some ⟨g, 0, none⟩) n c xs) (hm : MapB w mb f) : g ≠ mb := by
  rintro rfl
  rcases RowAt.form hr with ⟨h1, _⟩ | ⟨g', cur, h1, _, h2, _⟩
  · cases h1
  · cases h1
    obtain ⟨es, cl, h3, _⟩ := hm
    rw [h2] at h3; cases h3
theorem mem_updM_app {M : Int → List Int} {k j n v : Int} (h : v ∈ M j) : v ∈ updM M k (M k ++ [n]) j := by
  by_cases hj : j = k
  · subst hj; rw [updM_same]; simp [h]
  · rw [updM_other _ _ hj]; exact h
end Go.Proofs.Ytnickcjkipemmaa
