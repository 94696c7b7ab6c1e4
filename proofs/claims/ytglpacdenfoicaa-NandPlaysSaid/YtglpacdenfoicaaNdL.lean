/- nand: the whole of a read -/
import Derived.Test.YtglpacdenfoicaaNdK
namespace Go.Proofs.Ytglpacdenfoicaa
open Go.RowKit

variable {w w' : World} {ab bb bc fc : Nat} {db : Nat → Nat} {pb : Nat → Nat → Nat} {fa : Option Addr} {L : List Fx} {A A' : Nd} {O T : Nat → Prop}
/-- faults, as far as they were looked at -/
def ticked (op d n p : Int) (i : Nat) (F : List Ft) : List Ft := (F.take i).map (Ft.tick op d n p) ++ F.drop i
theorem ticked_zero (op d n p : Int) (F : List Ft) : ticked op d n p 0 F = F := by simp [ticked]
theorem ticked_len (op d n p : Int) (i : Nat) (F : List Ft) : (ticked op d n p i F).length = F.length := by
  unfold ticked; rw [List.length_append, List.length_map, List.length_take, List.length_drop]; omega
theorem ticked_all (op d n p : Int) (F : List Ft) : ticked op d n p F.length F = F.map (Ft.tick op d n p) := by simp [ticked]
theorem ticked_at {op d n p : Int} {i : Nat} {F : List Ft} (hi : i < F.length) : (ticked op d n p i F)[i]? = F[i]? := by
  unfold ticked
  rw [List.getElem?_append_right (by rw [List.length_map, List.length_take]; omega), List.length_map, List.length_take, Nat.min_eq_left (by omega), Nat.sub_self, List.getElem?_drop, Nat.add_zero]
theorem ticked_set {op d n p : Int} {i : Nat} {F : List Ft} {f : Ft} (hf : F[i]? = some f) : (ticked op d n p i F).set i (f.tick op d n p) = ticked op d n p (i + 1) F := by
  have hi : i < F.length := (List.getElem?_eq_some_iff.1 hf).1
  unfold ticked
  rw [List.set_append_right _ _ (by rw [List.length_map, List.length_take]; omega), List.length_map, List.length_take, Nat.min_eq_left (by omega), Nat.sub_self]
  rw [List.take_add_one, hf, List.map_append, List.append_assoc]
  congr 1
  rw [List.drop_eq_getElem_cons hi]
  rfl
theorem ticked_skip {op d n p : Int} {i : Nat} {F : List Ft} {f : Ft} (hf : F[i]? = some f) (hn : f.now op d n p = false) : ticked op d n p (i + 1) F = ticked op d n p i F := by
  rw [← ticked_set hf]
  have e : f.tick op d n p = f := by unfold Ft.tick; rw [hn]; rfl
  rw [e]
  apply List.ext_getElem?
  intro j
  rw [List.getElem?_set]
  by_cases hj : i = j
  · subst hj
    have hi : i < F.length := (List.getElem?_eq_some_iff.1 hf).1
    rw [if_pos rfl, if_pos (by rw [ticked_len]; exact hi), ticked_at hi, hf]
  · rw [if_neg hj]
/-- bits turned, as far as they were looked at -/
def bitsTo (st : List Int × Int) (l : List Int) (q : Nat) : List Int × Int := (l.take q).foldl flipB st
theorem bitsTo_zero (st : List Int × Int) (l : List Int) : bitsTo st l 0 = st := rfl
theorem bitsTo_all (st : List Int × Int) (l : List Int) : bitsTo st l l.length = l.foldl flipB st := by unfold bitsTo; rw [List.take_length]
theorem bitsTo_step {st : List Int × Int} {l : List Int} {q : Nat} (hq : q < l.length) : bitsTo st l (q + 1) = flipB (bitsTo st l q) (gi l q) := by
  unfold bitsTo
  rw [List.take_add_one, List.getElem?_eq_getElem hq, List.foldl_append, gi_eq hq]; rfl
theorem turnB_len (l : List Int) (k : Int) : (turnB l k).length = l.length := by unfold turnB; rw [List.length_set]
theorem bitsTo_len (st : List Int × Int) (l : List Int) : ∀ q, q ≤ l.length → (bitsTo st l q).1.length = st.1.length
  | 0, _ => rfl
  | q + 1, h => by
    rw [bitsTo_step (by omega)]
    show (turnB _ _).length = _
    rw [turnB_len]; exact bitsTo_len st l q (by omega)
def faultsTo (op d n p : Int) (st : List Int × Int) (F : List Ft) (i : Nat) : List Int × Int := (F.take i).foldl (flipF op d n p) st
theorem faultsTo_zero (op d n p : Int) (st : List Int × Int) (F : List Ft) : faultsTo op d n p st F 0 = st := rfl
theorem faultsTo_all (op d n p : Int) (st : List Int × Int) (F : List Ft) : faultsTo op d n p st F F.length = F.foldl (flipF op d n p) st := by unfold faultsTo; rw [List.take_length]
theorem faultsTo_step {op d n p : Int} {st : List Int × Int} {F : List Ft} {i : Nat} {f : Ft} (hf : F[i]? = some f) : faultsTo op d n p st F (i + 1) = flipF op d n p (faultsTo op d n p st F i) f := by
  unfold faultsTo
  rw [List.take_add_one, hf, List.foldl_append]; rfl
theorem faultsTo_skip {op d n p : Int} {st : List Int × Int} {F : List Ft} {i : Nat} {f : Ft} (hf : F[i]? = some f) (hn : f.now op d n p = false) : faultsTo op d n p st F (i + 1) = faultsTo op d n p st F i := by
  rw [faultsTo_step hf]; unfold flipF; rw [hn]; rfl
theorem faultsTo_turn {op d n p : Int} {st : List Int × Int} {F : List Ft} {i : Nat} {f : Ft} (hf : F[i]? = some f) (hn : f.now op d n p = true) : faultsTo op d n p st F (i + 1) = bitsTo (faultsTo op d n p st F i) f.bits f.bits.length := by
  rw [faultsTo_step hf, bitsTo_all]; unfold flipF; rw [hn]; rfl
theorem faultsTo_len (op d n p : Int) (st : List Int × Int) (F : List Ft) : ∀ i, (faultsTo op d n p st F i).1.length = st.1.length
  | 0 => rfl
  | i + 1 => by
    by_cases hi : i < F.length
    · obtain ⟨f, hf⟩ : ∃ f, F[i]? = some f := ⟨F[i], List.getElem?_eq_getElem hi⟩
      cases hn : f.now op d n p with
      | true => rw [faultsTo_turn hf hn, bitsTo_len _ _ _ (Nat.le_refl _)]; exact faultsTo_len op d n p st F i
      | false => rw [faultsTo_skip hf hn]; exact faultsTo_len op d n p st F i
    · have e : faultsTo op d n p st F (i + 1) = faultsTo op d n p st F i := by
        unfold faultsTo; rw [List.take_of_length_le (by omega), List.take_of_length_le (by omega)]
      rw [e]; exact faultsTo_len op d n p st F i
theorem now_cases (f : Ft) (op d n p : Int) :
    (f.now op d n p = false ∧ (f.kind != 1) = true) ∨
    (f.now op d n p = false ∧ (f.kind != 1) = false ∧ decide (op < f.time) = true) ∨
    (f.now op d n p = false ∧ (f.kind != 1) = false ∧ decide (op < f.time) = false ∧ (f.left == 0) = true) ∨
    (f.now op d n p = false ∧ (f.kind != 1) = false ∧ decide (op < f.time) = false ∧ (f.left == 0) = false ∧ (f.die != d) = true) ∨
    (f.now op d n p = false ∧ (f.kind != 1) = false ∧ decide (op < f.time) = false ∧ (f.left == 0) = false ∧ (f.die != d) = false ∧ (f.block != n) = true) ∨
    (f.now op d n p = false ∧ (f.kind != 1) = false ∧ decide (op < f.time) = false ∧ (f.left == 0) = false ∧ (f.die != d) = false ∧ (f.block != n) = false ∧ (f.page != p) = true) ∨
    (f.now op d n p = true ∧ (f.kind != 1) = false ∧ decide (op < f.time) = false ∧ (f.left == 0) = false ∧ (f.die != d) = false ∧ (f.block != n) = false ∧ (f.page != p) = false) := by
  unfold Ft.now
  cases f.kind != 1 <;> cases decide (op < f.time) <;> cases f.left == 0 <;> cases f.die != d <;> cases f.block != n <;> cases f.page != p <;> simp
theorem left_zero {n : Nat} {b : Bool} (h : (n == 0) = b) : (((n : Nat) : Int) == 0) = b := by
  rw [← h]
  cases n <;> rfl
end Go.Proofs.Ytglpacdenfoicaa
