/- ArbiterPlays: whatever the bursts and the script, the law's call returns true and leaves its arguments as they were. No condition. -/
import Derived.Test.YtikofabijdkbjaaF
import Derived.Test.YtikofabijdkbjaaOpen
namespace Go.Proofs.Ytikofabijdkbjaa
open Go.ChangeShapes Go.WideShapes Go.ChangeAt Go.RowKit Go.Deep

theorem own : ownKnob Try.prog.godebug = none := by kernel_rfl
theorem laidOut : laidOutB Try.prog = true := by kernel_rfl
theorem bytes3 : Try.prog.bytesOf 3 = 8 := by kernel_rfl

theorem arg_rows {H : Type} {enc : TypeId × Value → H} {w : World} {b : Option Addr} {len cap : Nat} {d : DataW H} {ps : List MemPlace} (h : DataW.Trod enc Try.prog w 0 (fun _ => true) true 23 (.slice b len cap) d ps) :
    ∃ rows : List (List Bool), rows.length = len ∧ RowsAt w b rows ∧ len ≤ maxLen := by
  obtain ⟨fuel, hf⟩ := h
  rcases open_bool_rows Try.underlying23 Try.underlying33 Try.underlying4 (by kernel_rfl) (by kernel_rfl) hf with ⟨hcs, hx⟩ | ⟨x, l, c, A, L, C, B, hcs, _, hl, hm, hx, hcell⟩
  · simp [Value.cells] at hcs
    obtain ⟨rfl, rfl, rfl⟩ := hcs
    exact ⟨[], rfl, (fun j hj => by cases hj), Nat.zero_le _⟩
  · simp [Value.cells] at hcs
    obtain ⟨rfl, rfl, rfl⟩ := hcs
    refine ⟨(List.range len).map fun r => (List.range (L r)).map (B r), by simp, ?_, by omega⟩
    intro r hr
    simp at hr
    obtain ⟨h1, h2, h3, h4, h5⟩ := hcell r (by omega)
    have hx0 := addr_plain (hcell 0 (by omega)).1
    have hg : gr ((List.range len).map fun r => (List.range (L r)).map (B r)) r = (List.range (L r)).map (B r) := by simp [gr, List.getD, hr]
    refine ⟨x.block, x.off, A r, C r, by rw [hx0], ?_, ?_, ?_⟩
    · rw [hg]
      simp only [List.length_map, List.length_range]
      rw [← h1]
      conv => rhs; rw [hx0, Addr.add_lit]
    · rw [hg]
      exact arg_bools h2 (fun y hy c hc => (h5 y hy).2 c hc) h4
    · rw [hg]; simp; omega

set_option maxRecDepth 100000 in
theorem lifted (os : Os) (started : os.Started) (H : Type) (enc : TypeId × Value → H) :
    ReturnsInHanded {} Try.checked os 3 .any (Rows.arbiterPlaysSpec.pre6 enc Try.prog Try.f3 Rows.arbiterPlaysRow.domain false) (Rows.arbiterPlaysSpec.post enc Try.prog Try.f3 false true false false) := by
  refine returnsInHanded_of_change_sized (C := Try.checked) own started (by kernel_rfl) Try.func3
    (ChangeSpec.witness6 (enc := enc) (C := Try.checked) false ⟨#[], #[.slice none 0 0, .slice none 0 0], []⟩ 8 (by kernel_rfl) (by kernel_rfl) (by kernel_rfl) (by kernel_rfl)) ?_
  intro W base args ds gs before hval0 hW _ hsz0 _
  have hsz1 : (DataW.weightsEach Try.prog (Try.f3.params.toList ++ Rows.arbiterPlaysSpec.plain.varTypes Try.prog) (ds ++ gs)).all (· ≤ reachBytes) = true := hsz0
  clear hsz0
  have hval : ∀ (j : Nat) t v, Try.f3.params[j]? = some t → args[j]? = some v → Value.okWide Try.prog W .any base t v := hval0
  have hW' := hW
  obtain ⟨p, q, hA0, hV, rfl, hfz, hnd⟩ := hW
  have hA : DataW.TrodAll enc Try.prog W 0 (fun _ => true) true Try.f3.params.toList args.toList ds p := hA0
  rw [Try.params3] at hA hval hsz1
  obtain ⟨v0, vs0, d0, ds0, p0, q0, hargs, rfl, rfl, h0, r0⟩ := trodAll_cons hA
  obtain ⟨v1, vs1, d1, ds1, p1, q1, rfl, rfl, rfl, h1, r1⟩ := trodAll_cons r0
  obtain ⟨rfl, rfl, rfl⟩ := trodAll_nil r1
  obtain rfl : args = #[v0, v1] := by cases args; simp_all
  obtain ⟨rfl, rfl⟩ := trodVars_none hV
  obtain ⟨a0, len0, cap0, rfl⟩ := okWide_slice Try.underlying22 (hval 0 22 v0 rfl rfl)
  obtain ⟨a1, len1, cap1, rfl⟩ := okWide_slice Try.underlying23 (hval 1 23 v1 rfl rfl)
  have lt0 : ∀ x ∈ p0, x.block < W.heap.size := by obtain ⟨m, hm⟩ := h0; exact DataW.trod_lt m _ _ _ hm
  have lt1 : ∀ x ∈ p1, x.block < W.heap.size := by obtain ⟨m, hm⟩ := h1; exact DataW.trod_lt m _ _ _ hm
  obtain ⟨xs, hl0, hi0, hn0, hc0, hm0, _, hd0⟩ := arg_ints Try.underlying22 Try.underlying3 (by kernel_rfl) h0
  obtain ⟨rows, hl1, hr1, hm1⟩ := arg_rows h1
  have hreach : xs.length * 8 ≤ 140737488351232 := by
    rcases hd0 with ⟨_, h⟩ | ⟨elems, spare, rfl, h⟩
    · omega
    · have := bytes_of_sized hsz1 (j := 0) (t := 22) (e := 3) rfl rfl Try.underlying22
      rw [bytes3] at this
      omega
  subst hl0
  subst hl1
  clear hA0 hval0
  refine (plays_any a0 cap0 xs a1 cap1 rows W hi0 hn0 hreach hr1 hm1).mono fun e W' ⟨he, bel⟩ => ?_
  subst he
  exact ⟨_, rfl, _, _, _, [], _, [], hW', trodAll_mk1 (shut_bool Try.underlying4 _), (trodAll_cons_mk (Below.trod laidOut (by kernel_rfl) (of_decide_eq_true (by kernel_rfl)) h0 bel.below lt0) (trodAll_cons_mk (Below.trod laidOut (by kernel_rfl) (of_decide_eq_true (by kernel_rfl)) h1 bel.below lt1) trodAll_mk0)), rfl, bel.below.frame _, fun h => by cases h⟩

theorem over : Rows.arbiterPlaysRow.holds Try.pinned (OpenSpec.ofChange Rows.arbiterPlaysSpec) :=
  OpenClaim.holds_of_wide 3 Try.f3 rfl rfl rfl rfl rfl rfl rfl ⟨rfl, rfl, rfl, rfl, rfl⟩ rfl rfl rfl rfl rfl (by kernel_rfl) Try.func3 (by kernel_rfl)
    (of_decide_eq_true (by kernel_rfl)) (by unfold Func.isWrapper; first | (rw [if_pos (by decide +kernel)]; kernel_rfl) | (rw [if_neg (by decide +kernel)]; exact ⟨rfl, rfl⟩))
    (fun os started H enc _ => lifted os started H enc)

theorem arbiterPlays_holds : Rows.ArbiterPlaysSaid := over
#print axioms arbiterPlays_holds
end Go.Proofs.Ytikofabijdkbjaa
