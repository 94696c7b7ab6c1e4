/- Free; the rows of spaces: IndexFunc, DeleteFunc, Clone, Index, All -/
import Derived.Test.YtmdgbcbnciaikaaB
import Derived.Deep.MidRow
namespace Go.Proofs.Ytmdgbcbnciaikaa
open Go.RowKit

attribute [local go_sem ↓] Go.wp_at_zero Go.wp_at_succ

theorem spSum_bound {keys : Int} {T : List Spc} (hok : TabOk keys T) (hk : keys ≤ 4096) : ∀ q, q ≤ T.length → 0 ≤ spSum (T.take q) ∧ spSum (T.take q) ≤ 4096 * q := by
  intro q
  induction q with
  | zero => intro _; simp [spSum]
  | succ q ih =>
    intro hq
    obtain ⟨h1, h2⟩ := ih (by omega)
    have hs : 0 ≤ (T[q]'(by omega)).size ∧ (T[q]'(by omega)).size ≤ 4096 := by
      rcases hok.one q _ (List.getElem?_eq_getElem (by omega)) with h | ⟨_, h⟩
      · rw [h]; simp [sp0]
      · have := h.size; have := h.base; have := h.top; omega
    rw [spSum_take (by omega)]
    push_cast
    omega

theorem recs_mid {T : List Spc} {q : Nat} {s : Spc} (hs : T[q]? = some s) : List.take 3 (List.drop (q * 3) (recs spC T)) = spC s := by
  apply List.ext_getElem?
  intro j
  rw [List.getElem?_take]
  split
  · rename_i hj3
    rw [List.getElem?_drop]
    have hl : j < (spC s).length := by rw [spC_len]; exact hj3
    rw [recs_get spC_len hj3 hs (List.getElem?_eq_getElem hl), List.getElem?_eq_getElem hl]
  · rename_i hj
    rw [List.getElem?_eq_none]
    rw [spC_len]; omega
theorem index_run {T : List Spc} (hl : T.length = 16) {q : Nat} {s : Spc} (hs : T[q]? = some s) (W : World) : (Instr.index 55 (.agg (recs spC T).toArray) (.int .i64 (q : Int))).run Try.prog W = .ok (.agg #[.int .i64 s.id, .int .i64 s.base, .int .i64 s.size]) W := by
  have hq : q < 16 := by have := (List.getElem?_eq_some_iff.1 hs).1; omega
  have hm := recs_mid hs
  simp [Instr.index, run_underlying Try.underlying55, asIntOf, go_sem, Try.isAgg30, Try.sizeOf30, part, hq, hm, spC]
theorem TabAt.range {w : World} {tb : Nat} {E : TypeId} {keys : Int} {T : List Spc} (h : TabAt w tb E keys T) : w.rangeAt tb 1 (recs spC T) := by
  intro j v hj
  rw [cell_of_heap h, show 1 + j = j + 1 by omega]
  simpa using hj
theorem size55 {T : List Spc} (hl : T.length = 16) : (Try.prog.info? 55).map (·.size) = some (recs spC T).length := by rw [recs_len spC_len, hl]; kernel_rfl

set_option maxHeartbeats 4000000 in
theorem free_any {w : World} {tb : Nat} {E : TypeId} {keys : Int} {T : List Spc} (h : TabAt w tb E keys T) (hok : TabOk keys T) (hk0 : 1 ≤ keys) (hkm : keys ≤ 4096) :
    Calls Try.prog 14 #[.pointer (some ⟨tb, 0, none⟩)] w fun e w' => e = .returned (.int .i64 (keys - spSum T)) ∧ Keeps Nil w w' := by
  have ck := h.key
  have hB := Lib.hid (spSum_bound hok hkm)
  have hl := Lib.hid hok.len
  have hR := Lib.hid h.range
  have hS := Lib.hid (size55 hok.len)
  obtain ⟨A, hA⟩ : ∃ A, Value.agg (recs spC T).toArray = A := ⟨_, rfl⟩
  have hA' := Lib.hid hA
  obtain ⟨z, hz⟩ : ∃ z, keys - spSum T = z := ⟨_, rfl⟩
  have hz' := Lib.hid hz
  rw [hz]
  clear h hok hz hA
  go_enter Try.func14, Try.ntmps14
  go_wp2_with (refine wpList_load_mid rfl 55 (.tmp 14) rfl tb 1 rfl (recs spC T) _ hR.out Try.underlying55 rfl hS.out ?_; rw [hA'.out])
  go_loopw [3, 5, 16] (fun c3 _ c16 wx => ∃ q : Nat, q ≤ 16 ∧ c16 = .int .i64 q ∧ c3 = .int .i64 (keys - spSum (T.take q)) ∧ Keeps Nil w wx) (fun _ _ c _ => 16 - (intOf c).toNat)
  case atStart => exact ⟨0, by omega, rfl, by simp [spSum], Keeps.refl _ _⟩
  case round =>
    obtain ⟨q, hq, rfl, rfl, hK⟩ := hrel
    have hK' := Lib.hid hK
    clear hK
    have hb := hB.out q (by rw [hl.out]; exact hq)
    by_cases hlt : q < 16
    · have hs : T[q]? = some (T[q]'(by rw [hl.out]; exact hlt)) := List.getElem?_eq_getElem _
      obtain ⟨s, hse⟩ : ∃ s, T[q]'(by rw [hl.out]; exact hlt) = s := ⟨_, rfl⟩
      rw [hse] at hs
      have hI := fun W => index_run hl.out hs W
      rw [hA'.out] at hI
      have hn := hB.out (q + 1) (by rw [hl.out]; exact hlt)
      have he : spSum (T.take (q + 1)) = spSum (T.take q) + s.size := by rw [spSum_take (by rw [hl.out]; exact hlt), hse]
      rw [he] at hn
      have he' := Lib.hid he
      obtain ⟨y, hy⟩ : ∃ y, spSum (T.take q) = y := ⟨_, rfl⟩
      rw [hy] at hb hn
      have hy' := Lib.hid hy
      rw [hy]
      have x1 : wrap64 (keys - y - s.size) = keys - y - s.size := by unfold wrap64; omega
      have g1 : (q : Int) < 16 := by omega
      clear hs hse he hy
      go_wp2_with fail
      go_roundw
      case rel => exact ⟨q + 1, by omega, by go_num, by rw [he'.out, hy'.out]; congr 1; omega, hK'.out.alloc _⟩
      case measure => simp [intOf]; omega
    · have hq16 : q = 16 := by omega
      have e : keys - spSum (T.take q) = z := by rw [hq16, ← hl.out, List.take_length]; exact hz'.out
      rw [e]
      clear e
      subst hq16
      go_wp2_with fail
      go_ret
      exact ⟨rfl, hK'.out⟩
end Go.Proofs.Ytmdgbcbnciaikaa
