/- SpaceApart: the plain part -/
import Derived.Test.YtmdgbcbnciaikaaI
import Derived.Test.YtmdgbcbnciaikaaMaps
import Derived.Test.YtmdgbcbnciaikaaOpen
namespace Go.Proofs.Ytmdgbcbnciaikaa
open Go.RowKit

theorem tat_mem {keys : Int} {T : List Spc} (h : TabOk keys T) {s : Spc} (hs : s ∈ spAll T) : tat T s.id = s ∧ 1 ≤ s.id ∧ s.id ≤ 16 ∧ s ≠ sp0 ∧ SpOk keys s := by
  obtain ⟨h1, h2⟩ := mem_all.1 hs
  obtain ⟨i, hi⟩ := List.mem_iff_getElem?.1 h1
  have hil := (List.getElem?_eq_some_iff.1 hi).1
  rw [h.len] at hil
  rcases h.one i s hi with h3 | ⟨h3, h4⟩
  · exact absurd h3 h2
  · have h5 := tat_get h.len hil
    rw [hi] at h5
    refine ⟨by rw [h3]; exact (Option.some.inj h5).symm, by omega, by omega, h2, h4⟩
theorem key_at {keys : Int} {T : List Spc} (h : TabOk keys T) {s : Spc} (hs : s ∈ spAll T) {k : Nat} (hk : (k : Int) < s.size) : keyV (tat T s.id) (k : Int) 1 = s.base + k ∧ keyE (tat T s.id) (k : Int) 1 = 0 := by
  obtain ⟨h1, _, _, h2, h3⟩ := tat_mem h hs
  have := h3.size
  rw [h1]
  unfold keyV keyE
  rw [if_neg h2, if_neg h2, if_neg (by omega), if_neg (by omega)]
  exact ⟨rfl, rfl⟩
theorem key_past {keys : Int} {T : List Spc} (h : TabOk keys T) {s : Spc} (hs : s ∈ spAll T) : keyE (tat T s.id) s.size 1 = 141 := by
  obtain ⟨h1, _, _, h2, h3⟩ := tat_mem h hs
  have := h3.size
  rw [h1]
  unfold keyE
  rw [if_neg h2, if_pos (by omega)]

/-- the map of owners at mb: the keys of the first i spaces and k of the next one -/
structure Own (w w' : World) (mb : Nat) (f : List (Int × Value)) (K : List Int) : Prop where
  at_ : MapAt w' mb f
  keys : mkeys f = K
  keep : Keeps (· = mb) w w'
theorem Own.same {w w1 w2 : World} {mb : Nat} {f : List (Int × Value)} {K : List Int} (h : Own w w1 mb f K) (hk : Keeps Nil w1 w2) : Own w w2 mb f K :=
  ⟨h.at_.keeps hk (fun h => h), h.keys, h.keep.trans (hk.mono (fun _ h => h.elim))⟩
theorem Own.step {w w1 w2 : World} {mb : Nat} {f : List (Int × Value)} {K : List Int} (h : Own w w1 mb f K) {x : Int} {v : Value} (hx : x ∉ K) (hm : MapAt w2 mb (mset x v f)) (hk : Keeps (· = mb) w1 w2) : Own w w2 mb (mset x v f) (K ++ [x]) := by
  refine ⟨hm, ?_, h.keep.trans hk⟩
  rw [mset_new (by rw [h.keys]; exact hx)]
  unfold mkeys
  rw [List.map_append]
  show mkeys f ++ _ = _
  rw [h.keys]; rfl
theorem Own.none {w w1 : World} {mb : Nat} {f : List (Int × Value)} {K : List Int} (h : Own w w1 mb f K) {x : Int} (hx : x ∉ K) : mget x f = .none := mget_none.2 (by rw [h.keys]; exact hx)
theorem Own.len {w w1 : World} {mb : Nat} {f : List (Int × Value)} {K : List Int} (h : Own w w1 mb f K) : f.length = K.length := by rw [← mkeys_length, h.keys]
theorem keysOf_take {L : List Spc} {i : Nat} {s : Spc} (hs : L[i]? = some s) : keysOf (L.take (i + 1)) = keysOf (L.take i) ++ keysUp s s.size.toNat := by
  obtain ⟨hi, e⟩ := List.getElem?_eq_some_iff.1 hs
  rw [List.take_succ_eq_append_getElem hi, e, keysOf_snoc]
theorem keysUp_zero (s : Spc) : keysUp s 0 = [] := rfl
theorem owners {keys : Int} {T : List Spc} (h : TabOk keys T) : ((keysOf (spAll T)).length : Int) = spSum T := by
  rw [keysOf_len (fun s hs => by have := (h.all hs).size; omega), spSum_all]
end Go.Proofs.Ytmdgbcbnciaikaa
