/- slices.Clone, slices.DeleteFunc, All -/
import Derived.Test.YtmdgbcbnciaikaaD
import Derived.Lib.SliceRun
namespace Go.Proofs.Ytmdgbcbnciaikaa
open Go.RowKit

attribute [local go_sem ↓] Go.wp_at_zero Go.wp_at_succ

theorem info30 : (Try.prog.info? 30).map (fun i => (i.zero, i.size, i.bytes)) = some (some (.agg #[.int .i64 0, .int .i64 0, .int .i64 0]), 3, 24) := by kernel_rfl
theorem TabAt.src {w : World} {tb : Nat} {E : TypeId} {keys : Int} {T : List Spc} (h : TabAt w tb E keys T) (hl : T.length = 16) : Src w (some ⟨tb, 1, none⟩) 3 16 (recs spC T) := by
  refine ⟨by rw [recs_len spC_len, hl], (fun h => by cases h), fun ad ha j u hu => ?_⟩
  cases ha
  rw [Addr.add_lit]
  exact h.range j u hu

set_option maxHeartbeats 4000000 in
theorem clone30 {w : World} {tb : Nat} {E : TypeId} {keys : Int} {T : List Spc} (h : TabAt w tb E keys T) (hl : T.length = 16) :
    Calls Try.prog 30 #[.slice (some ⟨tb, 1, none⟩) 16 16] w fun e w' => ∃ g cap, e = .returned (.slice (some ⟨g, 0, none⟩) 16 cap) ∧ SpRow w' (some ⟨g, 0, none⟩) cap T ∧ Keeps Nil w w' ∧ w.heap.size ≤ g := by
  obtain ⟨i0, hi, hz0, hz1, hz2⟩ := info_parts info30
  have hnil := fun (w : World) a n c => Lib.run_eql_slice_nil (P := Try.prog) w 34 30 a n c 0 0 Try.underlying34
  have hs' := Lib.hid (h.src hl)
  have hl' := Lib.hid hl
  clear h hl
  go_enter Try.func30, Try.ntmps30
  go_wp2_with (at_builtin; refine wpList_app _ rfl _ _ 34 rfl 30 i0 _ 3 24 Try.underlying34 hi hz0 hz1 hz2 rfl (by decide) _ 0 0 [] rfl _ 16 _ (recs spC T) rfl ?_ ?c1 ?c2 ?c3 ?c4 ?c5 ?c6; intro a' cap' w1 hr hk hb)
  case c1 => exact ⟨rfl, .inr ⟨w.heap.size, 0, #[], rfl, Nat.zero_le _, heap_alloc_new _ _, Nat.le_refl _, Nat.zero_le _, rfl, rfl⟩⟩
  case c2 => exact (hs'.out.keeps ((Keeps.refl Nil _).alloc _))
  case c3 => simp
  case c4 => exact spC_one T
  case c5 => simp [maxLen]
  case c6 => simp
  go_ret
  have hr2 : SpRow w1 a' cap' T := by unfold SpRow RecRow; rw [hl'.out]; simpa using hr
  obtain ⟨g, rfl, hg⟩ := hr2.at (by rw [hl'.out]; decide)
  refine ⟨g, cap', by simp, hr2, ?_, ?_⟩
  · exact ((Keeps.refl Nil w).alloc _).trans' hk (fun j hj => by simp [blk] at hj; omega)
  · rcases hb with hb | ⟨hb, _⟩
    · simp [blk] at hb; omega
    · simp [blk] at hb; omega

/-! ### DeleteFunc: the plain part -/
theorem spAll_take {T : List Spc} {q : Nat} {s : Spc} (hs : T[q]? = some s) : spAll (T.take (q + 1)) = if s = sp0 then spAll (T.take q) else spAll (T.take q) ++ [s] := by
  obtain ⟨hq, e⟩ := List.getElem?_eq_some_iff.1 hs
  rw [List.take_succ_eq_append_getElem hq, e]
  unfold spAll
  rw [List.filter_append]
  by_cases h : s = sp0
  · rw [if_pos h]; simp [h]
  · rw [if_neg h]; simp [h]
theorem idx0_all : ∀ (T : List Spc) (i : Nat), (idx0 T i = -1 ∧ spAll T = T) ∨ ∃ j : Nat, idx0 T i = ((i + j : Nat) : Int) ∧ T[j]? = some sp0 ∧ spAll (T.take j) = T.take j
  | [], _ => .inl ⟨rfl, rfl⟩
  | s :: r, i => by
    unfold idx0
    split
    · rename_i h
      exact .inr ⟨0, by simp, by simp [h], by simp [spAll]⟩
    · rename_i h
      rcases idx0_all r (i + 1) with ⟨h1, h2⟩ | ⟨j, h1, h2, h3⟩
      · refine .inl ⟨h1, ?_⟩
        unfold spAll at h2 ⊢
        rw [List.filter_cons_of_pos (by simpa using h), h2]
      · refine .inr ⟨j + 1, by rw [h1]; congr 1; omega, by simpa using h2, ?_⟩
        unfold spAll at h3 ⊢
        rw [List.take_succ_cons, List.filter_cons_of_pos (by simpa using h), h3]
theorem spAll_len (T : List Spc) : (spAll T).length ≤ T.length := List.length_filter_le _ _
/-- a row's place is written whole -/
theorem SpRow.set {w : World} {g cap : Nat} {L : List Spc} (h : SpRow w (some ⟨g, 0, none⟩) cap L) {i : Nat} {s : Spc} (hs : L[i]? = some s) (y : Spc) : SpRow (sp3 w g (i * 3) y.id y.base y.size) (some ⟨g, 0, none⟩) cap (L.set i y) := by
  have hj := (List.getElem?_eq_some_iff.1 hs).1
  have e1 := RecRow.setField h spC_len (i := 0) (y := ⟨y.id, s.base, s.size⟩) (v := .int .i64 y.id) (by decide) hs rfl
  have e2 := RecRow.setField e1 spC_len (j := i) (i := 1) (x := ⟨y.id, s.base, s.size⟩) (y := ⟨y.id, y.base, s.size⟩) (v := .int .i64 y.base) (by decide) (by simp [hj]) rfl
  have e3 := RecRow.setField e2 spC_len (j := i) (i := 2) (x := ⟨y.id, y.base, s.size⟩) (y := y) (v := .int .i64 y.size) (by decide) (by simp [hj]) rfl
  rw [List.set_set, List.set_set] at e3
  exact e3
/-- a row cut, its rest written over -/
theorem setCells_heap (g : Nat) {E : TypeId} {f : Nat × Nat} : ∀ (vs : List Value) (o : Nat) (w : World) (cur : Array Value), w.heap[g]? = some (.cells cur E f) →
    ∃ cur' : Array Value, (w.setCells g o vs).heap[g]? = some (.cells cur' E f) ∧ cur'.size = cur.size ∧ cur'.toList.take o = cur.toList.take o
  | [], _, _, cur, h => ⟨cur, h, rfl, rfl⟩
  | v :: r, o, w, cur, h => by
    obtain ⟨c2, h1, h2, h3⟩ := setCells_heap g r (o + 1) (w.setCell ⟨g, o, none⟩ v) _ (heap_setCell_same h o v)
    refine ⟨c2, h1, by simpa using h2, ?_⟩
    have := congrArg (List.take o) h3
    rw [List.take_take, List.take_take, Nat.min_eq_left (by omega)] at this
    rw [this]
    simp only [Array.toList_setIfInBounds]
    rw [List.take_set_of_le (by omega)]
theorem Keeps.setCells {S : Nat → Prop} {a : World} {g : Nat} (hg : S g ∨ a.heap.size ≤ g) : ∀ (vs : List Value) (o : Nat) (w : World), Keeps S a w → Keeps S a (w.setCells g o vs)
  | [], _, _, h => h
  | v :: r, o, _, h => Keeps.setCells hg r (o + 1) _ (h.setCell (p := ⟨g, o, none⟩) hg v)
theorem SpRow.cut {w : World} {g cap i : Nat} {L : List Spc} (h : SpRow w (some ⟨g, 0, none⟩) cap L) (hi : i ≤ L.length) (vs : List Value) : SpRow (w.setCells g (i * 3) vs) (some ⟨g, 0, none⟩) cap (L.take i) := by
  obtain ⟨hl, hc⟩ := h
  refine ⟨by rw [recs_len spC_len], ?_⟩
  rcases hc with ⟨hv, _⟩ | ⟨g', cap', cur, hv, hb, hh, r1, r2, r3, r4⟩
  · cases hv
  · simp only [Value.slice.injEq, Option.some.injEq, Addr.mk.injEq] at hv
    obtain ⟨⟨rfl, _, _⟩, _, rfl⟩ := hv
    obtain ⟨c2, h1, h2, h3⟩ := setCells_heap g vs (i * 3) w cur hh
    have hil : (L.take i).length = i := by rw [List.length_take]; omega
    refine .inr ⟨g, cap, c2, rfl, hb, h1, by rw [hil]; omega, r2, by rw [h2, r3], ?_⟩
    rw [hil, h3]
    have := congrArg (List.take (i * 3)) r4
    rw [List.take_take, Nat.min_eq_left (by apply Nat.mul_le_mul_right; exact hi)] at this
    rw [this]
    have e := recs_app (enc := spC) (L.take i) (L.drop i)
    rw [List.take_append_drop] at e
    rw [e]
    have e2 : (recs spC (L.take i)).length = i * 3 := by rw [recs_len spC_len, hil]
    rw [← e2]
    simp
end Go.Proofs.Ytmdgbcbnciaikaa
