/- the reference's finds and rooms: the plain laws -/
import Derived.Test.YtmdgbcbnciaikaaT
namespace Go.Proofs.Ytmdgbcbnciaikaa
open Go.RowKit

/-- the first key of an owner, and how many -/
def fnd (id : Int) : List Int → Nat → Int → Int → Int × Int
  | [], _, b, z => (b, z)
  | x :: r, i, b, z => if x = id then fnd id r (i + 1) (if z = 0 then (i : Int) else b) (z + 1) else fnd id r (i + 1) b z
theorem fnd_cons (id x : Int) (r : List Int) (i : Nat) (b z : Int) : fnd id (x :: r) i b z = if x = id then fnd id r (i + 1) (if z = 0 then (i : Int) else b) (z + 1) else fnd id r (i + 1) b z := rfl
theorem fnd_none {id : Int} : ∀ {L : List Int} {i : Nat} {b z : Int}, (∀ x ∈ L, x ≠ id) → fnd id L i b z = (b, z)
  | [], _, _, _, _ => rfl
  | x :: r, i, b, z, h => by
    unfold fnd
    rw [if_neg (h x (by simp)), fnd_none (fun y hy => h y (by simp [hy]))]
theorem fnd_all {id : Int} : ∀ {L : List Int} {i : Nat} {b z : Int}, 0 < z → (∀ x ∈ L, x = id) → fnd id L i b z = (b, z + L.length)
  | [], _, _, _, _, _ => by simp [fnd]
  | x :: r, i, b, z, hz, h => by
    unfold fnd
    rw [if_pos (h x (by simp)), if_neg (by omega), fnd_all (by omega) (fun y hy => h y (by simp [hy])), List.length_cons]
    congr 1
    push_cast
    omega
theorem fnd_app {id : Int} : ∀ {A : List Int} (B : List Int) {i : Nat} {b z : Int}, fnd id (A ++ B) i b z = fnd id B (i + A.length) (fnd id A i b z).1 (fnd id A i b z).2
  | [], B, i, b, z => rfl
  | x :: r, B, i, b, z => by
    rw [List.cons_append, List.length_cons, show i + (r.length + 1) = i + 1 + r.length by omega, fnd_cons, fnd_cons]
    split
    · exact fnd_app B
    · exact fnd_app B
theorem fnd_drop {id : Int} {O : List Int} {q : Nat} {x : Int} (h : O[q]? = some x) (b z : Int) : fnd id (O.drop q) q b z = if x = id then fnd id (O.drop (q + 1)) (q + 1) (if z = 0 then (q : Int) else b) (z + 1) else fnd id (O.drop (q + 1)) (q + 1) b z := by
  obtain ⟨hq, e⟩ := List.getElem?_eq_some_iff.1 h
  rw [List.drop_eq_getElem_cons hq, e, fnd]
theorem Rel.find {keys : Int} {T : List Spc} {O : List Int} (h : Rel keys T O) (hok : TabOk keys T) {id : Int} (hid : 1 ≤ id) : fnd id O 0 0 0 = ((tat T id).base, (tat T id).size) := by
  have who : ∀ k : Nat, O[k]? = some id → ∃ s ∈ spAll T, has s k ∧ s.id = id ∧ tat T id = s := by
    intro k hk
    by_cases hex : ∃ s ∈ spAll T, has s k
    · obtain ⟨s, hs, hh⟩ := hex
      have e := h.inn s hs k hh
      rw [hk] at e
      have e2 := Option.some.inj e
      obtain ⟨h1, _⟩ := tat_mem hok hs
      exact ⟨s, hs, hh, e2.symm, by rw [e2]; exact h1⟩
    · exfalso
      have e := h.out k (List.getElem?_eq_some_iff.1 hk).1 (fun s hs hh => hex ⟨s, hs, hh⟩)
      rw [hk] at e
      have := Option.some.inj e
      omega
  by_cases h0 : tat T id = sp0
  · rw [h0]
    refine fnd_none (fun x hx e => ?_)
    obtain ⟨k, hk⟩ := List.mem_iff_getElem?.1 hx
    rw [e] at hk
    obtain ⟨s, hs, _, _, h5⟩ := who k hk
    exact (mem_all.1 hs).2 (h5.symm.trans h0)
  · have hsm : tat T id ∈ spAll T := by
      rcases id_cases id with h1 | h1 | ⟨i, hi, rfl⟩
      · exact absurd (tat_out (.inl h1)) h0
      · exact absurd (tat_out (.inr h1)) h0
      · exact mem_all.2 ⟨List.mem_of_getElem? (tat_get hok.len hi), h0⟩
    have hidd : (tat T id).id = id := by
      rcases id_cases id with h1 | h1 | ⟨i, hi, rfl⟩
      · exact absurd (tat_out (.inl h1)) h0
      · exact absurd (tat_out (.inr h1)) h0
      · exact (tat_id hok hi h0).1
    obtain ⟨z1, z2, z3⟩ := hok.all hsm
    have hlen := h.len
    generalize tat T id = s at *
    obtain ⟨B, hB⟩ : ∃ B : Nat, s.base = (B : Int) := ⟨s.base.toNat, by omega⟩
    obtain ⟨Z, hZ⟩ : ∃ Z : Nat, s.size = ((Z + 1 : Nat) : Int) := ⟨s.size.toNat - 1, by omega⟩
    have iff : ∀ k : Nat, O[k]? = some id → B ≤ k ∧ k < B + (Z + 1) := by
      intro k hk
      obtain ⟨t, _, ⟨h3, h4⟩, _, h5⟩ := who k hk
      subst h5
      omega
    have hin : ∀ k : Nat, B ≤ k → k < B + (Z + 1) → O[k]? = some id := fun k h1 h2 => by rw [← hidd]; exact h.inn s hsm k ⟨by omega, by omega⟩
    have hBl : B + (Z + 1) ≤ O.length := by omega
    have e1 : O = O.take B ++ (id :: ((O.drop (B + 1)).take Z ++ O.drop (B + (Z + 1)))) := by
      have h1 : O.drop B = id :: O.drop (B + 1) := by
        have := hin B (by omega) (by omega)
        obtain ⟨hq, e⟩ := List.getElem?_eq_some_iff.1 this
        rw [List.drop_eq_getElem_cons hq, e]
      have h2 : (O.drop (B + 1)).take Z ++ O.drop (B + (Z + 1)) = O.drop (B + 1) := by
        have := List.take_append_drop Z (O.drop (B + 1))
        rw [List.drop_drop, show B + 1 + Z = B + (Z + 1) by omega] at this
        exact this
      rw [h2, ← h1, List.take_append_drop]
    rw [e1, fnd_app]
    have hA : fnd id (O.take B) 0 0 0 = (0, 0) := fnd_none (fun x hx e => by
      obtain ⟨k, hk⟩ := List.mem_iff_getElem?.1 hx
      rw [List.getElem?_take] at hk
      split at hk
      · rw [e] at hk; have := iff k hk; omega
      · cases hk)
    rw [hA]
    have hlt : (O.take B).length = B := by rw [List.length_take]; omega
    rw [hlt, Nat.zero_add]
    show fnd id (id :: _) B 0 0 = _
    unfold fnd
    rw [if_pos rfl, if_pos rfl, fnd_app]
    have hM : ∀ i b, fnd id ((O.drop (B + 1)).take Z) i b (0 + 1) = (b, 1 + (Z : Int)) := fun i b => by
      rw [fnd_all (by omega) (fun x hx => by
        obtain ⟨k, hk⟩ := List.mem_iff_getElem?.1 hx
        rw [List.getElem?_take] at hk
        split at hk
        · rename_i hkz
          rw [List.getElem?_drop, hin (B + 1 + k) (by omega) (by omega)] at hk
          exact (Option.some.inj hk).symm
        · cases hk)]
      congr 1
      rw [List.length_take, List.length_drop, Nat.min_eq_left (by omega)]
      omega
    rw [hM]
    rw [fnd_none (fun x hx e => by
      obtain ⟨k, hk⟩ := List.mem_iff_getElem?.1 hx
      rw [List.getElem?_drop, e] at hk
      have := iff _ hk
      omega)]
    rw [hB, hZ]
    congr 1
    push_cast
    omega

/-- room, as the reference asks for it -/
def roomB (O : List Int) (base size : Int) : Bool := decide (size ≤ O.length ∧ base ≤ O.length - size) && ((O.drop base.toNat).take size.toNat).all (fun x => x == 0)
theorem roomB_iff {O : List Int} {b : Nat} {size : Int} (hs : 1 ≤ size) : roomB O (b : Int) size = true ↔ (b : Int) + size ≤ O.length ∧ freeL O b size.toNat := by
  unfold roomB
  rw [Bool.and_eq_true, decide_eq_true_eq, Int.toNat_natCast, List.all_eq_true]
  constructor
  · rintro ⟨⟨h1, h2⟩, h3⟩
    refine ⟨by omega, fun k hk1 hk2 => ?_⟩
    have hk : k < O.length := by omega
    have hm : O[k] ∈ (O.drop b).take size.toNat := by
      refine List.mem_iff_getElem?.2 ⟨k - b, ?_⟩
      rw [List.getElem?_take, if_pos (by omega), List.getElem?_drop, show b + (k - b) = k by omega]
      exact List.getElem?_eq_getElem hk
    have := h3 _ hm
    rw [List.getElem?_eq_getElem hk]
    simpa using this
  · rintro ⟨h1, h2⟩
    refine ⟨⟨by omega, by omega⟩, fun x hx => ?_⟩
    obtain ⟨j, hj⟩ := List.mem_iff_getElem?.1 hx
    rw [List.getElem?_take] at hj
    split at hj
    · rw [List.getElem?_drop, h2 (b + j) (by omega) (by omega)] at hj
      have := Option.some.inj hj
      rw [← this]; rfl
    · cases hj
theorem scan_least {size keys : Int} (hs : 1 ≤ size) : ∀ (S : List Spc) (pl : Int), 0 ≤ pl → (∀ s ∈ S, SpOk keys s) → ∀ b, pl ≤ b → (scan size keys S pl = -1 ∨ b < scan size keys S pl) →
    keys < b + size ∨ ∃ s ∈ S, ¬ (b + size ≤ s.base ∨ s.base + s.size ≤ b)
  | [], pl, h0, _, b, hb, h => by
    unfold scan at h
    left
    split at h <;> omega
  | s :: r, pl, h0, hok, b, hb, h => by
    unfold scan at h
    split at h
    · rename_i hf
      have := (hok s (by simp)).base
      rcases h with h | h
      · right; exact ⟨s, by simp, by omega⟩
      · omega
    · rename_i hf
      by_cases h1 : s.base + s.size ≤ b
      · rcases scan_least hs r (s.base + s.size) (by have := (hok s (by simp)).base; have := (hok s (by simp)).size; omega) (fun t ht => hok t (by simp [ht])) b h1 h with h2 | ⟨t, ht, h2⟩
        · exact .inl h2
        · exact .inr ⟨t, by simp [ht], h2⟩
      · right
        exact ⟨s, by simp, by have := (hok s (by simp)).size; omega⟩
theorem Rel.low {keys : Int} {T : List Spc} {O : List Int} (h : Rel keys T O) (hok : TabOk keys T) {size : Int} (hs : 1 ≤ size) :
    (lowAt keys T size = -1 ∧ ∀ b : Nat, roomB O (b : Int) size = false) ∨ ∃ p : Nat, lowAt keys T size = (p : Int) ∧ roomB O (p : Int) size = true ∧ ∀ b : Nat, b < p → roomB O (b : Int) size = false := by
  have hlen := h.len
  have hp := spSort_perm T
  have hr := rising_of hok hp (spSort_sorted hok)
  have hoks : ∀ s ∈ spSort T, SpOk keys s := fun s hh => hok.all (hp.mem_iff.1 hh)
  have hno : ∀ b : Nat, (lowAt keys T size = -1 ∨ (b : Int) < lowAt keys T size) → roomB O (b : Int) size = false := by
    intro b hb
    rw [Bool.eq_false_iff]
    intro hroom
    obtain ⟨h1, h2⟩ := (roomB_iff hs).1 hroom
    have h3 := (h.free_iff hok (z := size.toNat) (by omega) (by omega)).1 h2
    rcases scan_least hs (spSort T) 0 (Int.le_refl _) hoks (b : Int) (by omega) hb with h4 | ⟨s, hs4, h4⟩
    · omega
    · apply h4
      rcases h3 s (hp.mem_iff.1 hs4) with h5 | h5 <;> omega
  rcases scan_ok hs (spSort T) 0 (Int.le_refl _) hr hoks (fun s hh => (hoks s hh).base) with h1 | ⟨h1, h2, h3⟩
  · exact .inl ⟨h1, fun b => hno b (.inl h1)⟩
  · right
    obtain ⟨p, hpp⟩ : ∃ p : Nat, lowAt keys T size = (p : Int) := ⟨(lowAt keys T size).toNat, by unfold lowAt; omega⟩
    refine ⟨p, hpp, ?_, fun b hb => hno b (.inr (by rw [hpp]; omega))⟩
    have h1' : 0 ≤ lowAt keys T size := h1
    have h2' : lowAt keys T size + size ≤ keys := h2
    have h3' : ∀ s ∈ spSort T, lowAt keys T size + size ≤ s.base ∨ s.base + s.size ≤ lowAt keys T size := h3
    rw [hpp] at h2' h3'
    refine (roomB_iff hs).2 ⟨by omega, (h.free_iff hok (z := size.toNat) (by omega) (by omega)).2 (fun s hh => ?_)⟩
    have := h3' s (hp.mem_iff.2 hh)
    omega
/-- the record's space may be: as the reference asks -/
theorem Rel.fine {keys : Int} {T : List Spc} {O : List Int} (h : Rel keys T O) (hok : TabOk keys T) {r : Rec} (hr : RecOk r) (h1 : 1 ≤ r.a) (h2 : r.a ≤ 16) (h3 : 1 ≤ r.b) : fineR keys T r = (decide (tat T r.a = sp0) && roomB O r.c r.b) := by
  have hlen := h.len
  obtain ⟨c, hc⟩ : ∃ c : Nat, r.c = (c : Int) := ⟨r.c.toNat, by have := hr.c0; omega⟩
  have key : r.c + r.b ≤ keys → ((!(spAll T).any (over (spOf r))) = true ↔ freeL O c r.b.toNat) := by
    intro hk
    rw [h.free_iff hok (by omega) (by omega), Bool.not_eq_true', List.any_eq_false]
    constructor
    · intro h4 s hs
      have := over_apart (by simpa using h4 s hs)
      unfold Apart spOf at this
      simp only at this
      omega
    · intro h4 s hs
      have := h4 s hs
      unfold over spOf
      simp only [Bool.and_eq_true, decide_eq_true_eq]
      omega
  rw [Bool.eq_iff_iff, Bool.and_eq_true, decide_eq_true_eq]
  rw [hc, roomB_iff h3, ← hc]
  unfold fineR mayR
  rw [Bool.and_eq_true, decide_eq_true_eq]
  constructor
  · rintro ⟨⟨_, _, _, h4, h5, h6⟩, h7⟩
    exact ⟨h6, by omega, (key (by omega)).1 h7⟩
  · rintro ⟨h4, h5, h6⟩
    exact ⟨⟨h1, h2, h3, by have := hr.c0; omega, by omega, h4⟩, (key (by omega)).2 h6⟩
theorem fine_not {keys : Int} {T : List Spc} {r : Rec} (hk : keys ≤ 4096) (hr : RecOk r) (h : r.a < 1 ∨ 16 < r.a ∨ r.b < 1 ∨ 4096 < r.b ∨ 4096 < r.c) : fineR keys T r = false := by
  unfold fineR mayR
  rw [decide_eq_false (by have := hr.c0; omega)]
  rfl
end Go.Proofs.Ytmdgbcbnciaikaa
