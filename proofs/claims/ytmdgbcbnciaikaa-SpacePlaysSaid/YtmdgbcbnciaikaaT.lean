/- the reference's table, key by key: the plain laws -/
import Derived.Test.YtmdgbcbnciaikaaQ
import Derived.Test.YtmdgbcbnciaikaaL
namespace Go.Proofs.Ytmdgbcbnciaikaa
open Go.RowKit

/-- keys from b on get an owner -/
def layL (O : List Int) (b : Nat) (id : Int) : Nat → List Int
  | 0 => O
  | i + 1 => (layL O b id i).set (b + i) id
theorem layL_len (O : List Int) (b : Nat) (id : Int) : ∀ z, (layL O b id z).length = O.length
  | 0 => rfl
  | z + 1 => by unfold layL; rw [List.length_set, layL_len O b id z]
theorem layL_get (O : List Int) (b : Nat) (id : Int) : ∀ z, b + z ≤ O.length → ∀ k, (layL O b id z)[k]? = if b ≤ k ∧ k < b + z then some id else O[k]?
  | 0, _, k => by unfold layL; rw [if_neg (by omega)]
  | z + 1, h, k => by
    unfold layL
    rw [List.getElem?_set]
    by_cases hk : b + z = k
    · subst hk
      rw [if_pos rfl, if_pos (by rw [layL_len]; omega), if_pos (by omega)]
    · rw [if_neg hk, layL_get O b id z (by omega) k]
      by_cases h2 : b ≤ k ∧ k < b + z
      · rw [if_pos h2, if_pos (by omega)]
      · rw [if_neg h2, if_neg (by omega)]
theorem layL_count (O : List Int) (b : Nat) (id v : Int) (hv : ∀ k, ∀ z, b ≤ k → k < b + z → b + z ≤ O.length → True) : ∀ z, b + z ≤ O.length → (∀ k, b ≤ k → k < b + z → O[k]? = some v) →
    ((layL O b id z).count 0 : Int) = O.count 0 - (if v = 0 then (z : Int) else 0) + (if id = 0 then (z : Int) else 0)
  | 0, _, _ => by unfold layL; split <;> split <;> simp
  | z + 1, h, ho => by
    unfold layL
    have ih := layL_count O b id v hv z (by omega) (fun k h1 h2 => ho k h1 (by omega))
    have hg : (layL O b id z)[b + z]? = some v := by
      rw [layL_get O b id z (by omega), if_neg (by omega)]
      exact ho (b + z) (by omega) (by omega)
    have hl : b + z < (layL O b id z).length := by rw [layL_len]; omega
    have hge : (layL O b id z)[b + z] = v := (List.getElem?_eq_some_iff.1 hg).2
    rw [List.count_set hl, hge]
    by_cases hv0 : v = 0
    · have hpos : 0 < (layL O b id z).count 0 := by
        rw [List.count_pos_iff]
        rw [← hv0, ← hge]
        exact List.getElem_mem _
      subst hv0
      by_cases hid : id = 0
      · subst hid; simp at ih ⊢; omega
      · simp [hid] at ih ⊢; omega
    · by_cases hid : id = 0
      · subst hid; simp [hv0] at ih ⊢; omega
      · simp [hv0, hid] at ih ⊢; omega

def has (s : Spc) (k : Nat) : Prop := s.base ≤ (k : Int) ∧ (k : Int) < s.base + s.size
/-- of each key the owner -/
structure Rel (keys : Int) (T : List Spc) (O : List Int) : Prop where
  len : (O.length : Int) = keys
  inn : ∀ s ∈ spAll T, ∀ k : Nat, has s k → O[k]? = some s.id
  out : ∀ k : Nat, k < O.length → (∀ s ∈ spAll T, ¬ has s k) → O[k]? = some 0
  zero : (O.count 0 : Int) = keys - spSum T
theorem Rel.new {n : Nat} : Rel (n : Int) (List.replicate 16 sp0) (List.replicate n 0) := by
  refine ⟨by simp, fun s hs => ?_, fun k hk _ => ?_, ?_⟩
  · rw [show spAll (List.replicate 16 sp0) = [] by decide] at hs; cases hs
  · rw [List.getElem?_replicate, if_pos (by simpa using hk)]
  · rw [List.count_replicate_self, show spSum (List.replicate 16 sp0) = 0 by decide, Int.sub_zero]

/-- are so many keys from b on free? -/
def freeL (O : List Int) (b z : Nat) : Prop := ∀ k, b ≤ k → k < b + z → O[k]? = some 0
theorem Rel.free_iff {keys : Int} {T : List Spc} {O : List Int} (h : Rel keys T O) (hok : TabOk keys T) {b z : Nat} (hz : 1 ≤ z) (hb : b + z ≤ O.length) :
    freeL O b z ↔ ∀ s ∈ spAll T, (b : Int) + z ≤ s.base ∨ s.base + s.size ≤ (b : Int) := by
  have hlen := h.len
  constructor
  · intro hf s hs
    obtain ⟨_, i1, _, _, hso⟩ := tat_mem hok hs
    obtain ⟨z1, z2, z3⟩ := hso
    by_cases h1 : (b : Int) + z ≤ s.base
    · exact .inl h1
    · by_cases h2 : s.base + s.size ≤ (b : Int)
      · exact .inr h2
      · exfalso
        obtain ⟨k, hk⟩ : ∃ k : Nat, (k : Int) = if (b : Int) ≤ s.base then s.base else (b : Int) := by
          split
          · exact ⟨s.base.toNat, by omega⟩
          · exact ⟨b, rfl⟩
        have hk2 : b ≤ k ∧ k < b + z ∧ s.base ≤ (k : Int) ∧ (k : Int) < s.base + s.size := by split at hk <;> omega
        have e1 := hf k hk2.1 hk2.2.1
        have e2 := h.inn s hs k hk2.2.2
        rw [e1] at e2
        have := Option.some.inj e2
        omega
  · intro hf k h1 h2
    refine h.out k (by omega) (fun s hs hh => ?_)
    obtain ⟨h3, h4⟩ := hh
    rcases hf s hs with h5 | h5 <;> omega
theorem mem_put {T : List Spc} {i : Nat} {s x : Spc} (hi : T[i]? = some sp0) (hs : s ≠ sp0) : x ∈ spAll (T.set i s) ↔ x = s ∨ x ∈ spAll T := by
  have hil := (List.getElem?_eq_some_iff.1 hi).1
  rw [mem_all, mem_all]
  constructor
  · rintro ⟨h1, h2⟩
    rcases List.mem_or_eq_of_mem_set h1 with h | h
    · exact .inr ⟨h, h2⟩
    · exact .inl h
  · rintro (rfl | ⟨h1, h2⟩)
    · exact ⟨List.mem_set hil _, hs⟩
    · refine ⟨?_, h2⟩
      obtain ⟨j, hj⟩ := List.mem_iff_getElem?.1 h1
      have hji : i ≠ j := by rintro rfl; rw [hi] at hj; exact h2 (Option.some.inj hj).symm
      refine List.mem_iff_getElem?.2 ⟨j, ?_⟩
      rw [List.getElem?_set, if_neg hji, hj]
theorem spSum_put {T : List Spc} {i : Nat} {s : Spc} (hi : T[i]? = some sp0) : spSum (T.set i s) = spSum T + s.size := by
  obtain ⟨hj, e⟩ := List.getElem?_eq_some_iff.1 hi
  have hT : T = T.take i ++ sp0 :: T.drop (i + 1) := by
    rw [← e]
    conv => lhs; rw [← List.take_append_drop i T, List.drop_eq_getElem_cons hj]
  have hlen : (T.take i).length = i := by rw [List.length_take]; omega
  have h2 : T.set i s = T.take i ++ s :: T.drop (i + 1) := by
    conv => lhs; rw [hT]
    rw [List.set_append_right _ _ (by omega), hlen, Nat.sub_self]; rfl
  rw [h2]
  conv => rhs; rw [hT]
  rw [spSum_app, spSum_app]
  show spSum _ + (s.size + spSum _) = spSum _ + (sp0.size + spSum _) + s.size
  simp only [sp0]
  omega
theorem Rel.put {keys : Int} {T : List Spc} {O : List Int} (h : Rel keys T O) {i : Nat} {s : Spc} (hi : T[i]? = some sp0) (hs : s ≠ sp0) (hid : 1 ≤ s.id) {b z : Nat} (hb : s.base = (b : Int)) (hz : s.size = (z : Int)) (hbz : b + z ≤ O.length) (hf : freeL O b z)
    (hap : ∀ t ∈ spAll T, Apart s t) : Rel keys (T.set i s) (layL O b s.id z) := by
  refine ⟨by rw [layL_len]; exact h.len, fun x hx k hk => ?_, fun k hk hn => ?_, ?_⟩
  · rw [layL_get O b s.id z hbz]
    rcases (mem_put hi hs).1 hx with rfl | hx2
    · obtain ⟨h1, h2⟩ := hk
      rw [if_pos (by omega)]
    · have := hap x hx2
      obtain ⟨h1, h2⟩ := hk
      rw [if_neg (by rcases this with h3 | h3 <;> omega)]
      exact h.inn x hx2 k ⟨h1, h2⟩
  · rw [layL_len] at hk
    rw [layL_get O b s.id z hbz]
    have h1 := hn s ((mem_put hi hs).2 (.inl rfl))
    have h2 : ¬ (b ≤ k ∧ k < b + z) := fun hh => h1 ⟨by omega, by omega⟩
    rw [if_neg h2]
    exact h.out k hk (fun t ht => hn t ((mem_put hi hs).2 (.inr ht)))
  · rw [layL_count O b s.id 0 (fun _ _ _ _ _ => True.intro) z hbz hf, h.zero, spSum_put hi, if_pos rfl, if_neg (by omega)]
    omega
theorem Rel.del {keys : Int} {T : List Spc} {O : List Int} (h : Rel keys T O) (hok : TabOk keys T) {i : Nat} {s : Spc} (hi : T[i]? = some s) (hs : s ≠ sp0) {b z : Nat} (hb : s.base = (b : Int)) (hz : s.size = (z : Int)) :
    b + z ≤ O.length ∧ Rel keys (T.set i sp0) (layL O b 0 z) := by
  have hsm : s ∈ spAll T := mem_all.2 ⟨List.mem_of_getElem? hi, hs⟩
  obtain ⟨_, i1, _, _, hso⟩ := tat_mem hok hsm
  obtain ⟨z1, z2, z3⟩ := hso
  have hlen := h.len
  have hil := (List.getElem?_eq_some_iff.1 hi).1
  have hbz : b + z ≤ O.length := by omega
  have hmem : ∀ x, x ∈ spAll (T.set i sp0) ↔ x ∈ spAll T ∧ x ≠ s := by
    intro x
    rw [mem_all, mem_all]
    constructor
    · rintro ⟨h1, h2⟩
      obtain ⟨j, hj⟩ := List.mem_iff_getElem?.1 h1
      rw [List.getElem?_set] at hj
      by_cases hij : i = j
      · rw [if_pos hij, if_pos (by omega)] at hj
        exact absurd (Option.some.inj hj).symm h2
      · rw [if_neg hij] at hj
        refine ⟨⟨List.mem_of_getElem? hj, h2⟩, ?_⟩
        rintro rfl
        have := hok.two i j x x hij hi hj hs hs
        rcases this with h3 | h3 <;> omega
    · rintro ⟨⟨h1, h2⟩, h3⟩
      refine ⟨?_, h2⟩
      obtain ⟨j, hj⟩ := List.mem_iff_getElem?.1 h1
      have hij : i ≠ j := by rintro rfl; rw [hi] at hj; exact h3 (Option.some.inj hj).symm
      refine List.mem_iff_getElem?.2 ⟨j, ?_⟩
      rw [List.getElem?_set, if_neg hij, hj]
  refine ⟨hbz, by rw [layL_len]; exact h.len, fun x hx k hk => ?_, fun k hk hn => ?_, ?_⟩
  · obtain ⟨hx1, hx2⟩ := (hmem x).1 hx
    rw [layL_get O b 0 z hbz]
    obtain ⟨j, hj⟩ := List.mem_iff_getElem?.1 (mem_all.1 hx1).1
    have hij : i ≠ j := by rintro rfl; rw [hi] at hj; exact hx2 (Option.some.inj hj).symm
    have := hok.two i j s x hij hi hj hs (mem_all.1 hx1).2
    obtain ⟨h1, h2⟩ := hk
    rw [if_neg (by rcases this with h3 | h3 <;> omega)]
    exact h.inn x hx1 k ⟨h1, h2⟩
  · rw [layL_len] at hk
    rw [layL_get O b 0 z hbz]
    by_cases hh : b ≤ k ∧ k < b + z
    · rw [if_pos hh]
    · rw [if_neg hh]
      refine h.out k hk (fun t ht hht => ?_)
      by_cases hts : t = s
      · subst hts; obtain ⟨h1, h2⟩ := hht; omega
      · exact hn t ((hmem t).2 ⟨ht, hts⟩) hht
  · rw [layL_count O b 0 s.id (fun _ _ _ _ _ => True.intro) z hbz (fun k h1 h2 => h.inn s hsm k ⟨by omega, by omega⟩), h.zero, spSum_set hi, if_neg (by omega), if_pos rfl]
    omega
end Go.Proofs.Ytmdgbcbnciaikaa
