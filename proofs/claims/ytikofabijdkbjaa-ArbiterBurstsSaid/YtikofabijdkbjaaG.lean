/- the bursts that the laws make of raw numbers; what one step of the arbiter answers: plain lemmas -/
import Derived.Test.YtikofabijdkbjaaE
namespace Go.Proofs.Ytikofabijdkbjaa
open Go.RowKit

/-- bursts of raw numbers -/
def mkB (m : Int) (raw : List Int) (k : Nat) : List Int := (raw.take k).map fun x => 1 + absZ x % m
theorem mkB_len {m : Int} {raw : List Int} {k : Nat} (h : k ≤ raw.length) : (mkB m raw k).length = k := by simp [mkB]; omega
theorem mkB_succ {m : Int} {raw : List Int} {k : Nat} (h : k < raw.length) : mkB m raw (k + 1) = mkB m raw k ++ [1 + absZ (gi raw k) % m] := by
  unfold mkB
  rw [List.take_succ_eq_append_getElem h, List.map_append, gi_eq h]; rfl
theorem absZ_nn (n : Int) : 0 ≤ absZ n := by unfold absZ; split <;> omega
theorem absZ_le {n : Int} (h0 : -9223372036854775808 ≤ n) (h1 : n ≤ 9223372036854775807) : absZ n ≤ 9223372036854775807 := by unfold absZ; split <;> omega
theorem mkB_rng {m : Int} (hm : 1 ≤ m) {raw : List Int} {k j : Nat} (h : j < (mkB m raw k).length) : 1 ≤ gi (mkB m raw k) j ∧ gi (mkB m raw k) j ≤ m := by
  rw [gi_eq h]
  have hx : (mkB m raw k)[j] ∈ mkB m raw k := List.getElem_mem _
  unfold mkB at hx
  obtain ⟨x, _, hx2⟩ := List.mem_map.1 hx
  have e : (mkB m raw k)[j] = 1 + absZ x % m := hx2.symm
  rw [e]
  have h1 := Int.emod_nonneg (absZ x) (show m ≠ 0 by omega)
  have h2 := Int.emod_lt_of_pos (absZ x) (show 0 < m by omega)
  omega
theorem mkB_ok {m : Int} (hm : 1 ≤ m) (hm2 : m ≤ 64) {raw : List Int} {k : Nat} (h0 : 1 ≤ k) (h1 : k ≤ raw.length) (h2 : k ≤ 8) : NewOk (mkB m raw k) := by
  refine ⟨by rw [mkB_len h1]; omega, by rw [mkB_len h1]; omega, fun j hj => ?_⟩
  have := mkB_rng hm hj
  omega

/-! ### one step -/
theorem q_surj {s : Arb} (hs : s.Ok) {q : Nat} (hq : q < s.bursts.length) : ∃ k, k < s.bursts.length ∧ s.q k = q := by
  have hp := hs.pos
  cases hf : s.fresh
  · by_cases h : s.pos < q
    · refine ⟨q - s.pos - 1, by omega, ?_⟩
      unfold Arb.q; rw [hf]
      show (s.pos + 1 + (q - s.pos - 1)) % _ = q
      rw [show s.pos + 1 + (q - s.pos - 1) = q by omega, Nat.mod_eq_of_lt hq]
    · refine ⟨q + s.bursts.length - s.pos - 1, by omega, ?_⟩
      unfold Arb.q; rw [hf]
      show (s.pos + 1 + (q + s.bursts.length - s.pos - 1)) % _ = q
      rw [show s.pos + 1 + (q + s.bursts.length - s.pos - 1) = q + s.bursts.length by omega, Nat.add_mod_right, Nat.mod_eq_of_lt hq]
  · exact ⟨q, hq, by unfold Arb.q; rw [hf]; rfl⟩
theorem seek_some {s : Arb} {bs : List Bool} : ∀ {f k j : Nat}, k ≤ j → j < k + f → gb bs (s.q j) = true → ∃ i, s.seek bs k f = some i ∧ i ≤ j
  | 0, k, j, h1, h2, _ => by omega
  | f + 1, k, j, h1, h2, h3 => by
    rw [Arb.seek]
    split
    · exact ⟨k, rfl, h1⟩
    · rename_i hn
      have hne : k ≠ j := fun e => hn (by rw [e]; exact h3)
      exact seek_some (by omega) (by omega) h3
theorem seek_none {s : Arb} {bs : List Bool} (h : ∀ q, gb bs q = false) : ∀ {f k : Nat}, s.seek bs k f = none
  | 0, k => rfl
  | f + 1, k => by rw [Arb.seek, h]; exact seek_none h
/-- What is answered is ready. -/
theorem next_ready {s : Arb} (hs : s.Ok) {bs : List Bool} {q : Nat} (hq : q < s.bursts.length) (hr : gb bs q = true) :
    ∃ n : Nat, (s.next bs).1 = n ∧ n < s.bursts.length ∧ gb bs n = true := by
  by_cases ht : s.takes bs
  · rw [next_of_takes ht]
    exact ⟨s.pos, rfl, hs.pos, ht.2.2⟩
  · obtain ⟨k, hk, hkq⟩ := q_surj hs hq
    obtain ⟨i, hi, _⟩ := seek_some (s := s) (bs := bs) (f := s.bursts.length) (Nat.zero_le k) (by omega) (by rw [hkq]; exact hr)
    rw [next_of_some ht hi]
    have := seek_lt hi
    exact ⟨s.q i, rfl, Arb.q_lt hs (by omega), this.2.2⟩
theorem next_alone {s : Arb} (hs : s.Ok) {bs : List Bool} {q : Nat} (hq : q < s.bursts.length) (hr : gb bs q = true) (ho : ∀ j, gb bs j = true → j = q) : (s.next bs).1 = q := by
  obtain ⟨n, h1, _, h2⟩ := next_ready hs hq hr
  rw [h1, ho n h2]
theorem next_nobody {s : Arb} {bs : List Bool} (h : ∀ q, gb bs q = false) : (s.next bs).1 = -1 := by
  rw [next_of_none (fun ht => by have := ht.2.2; rw [h] at this; cases this) (seek_none h)]
end Go.Proofs.Ytikofabijdkbjaa
