/- slices.SortFunc over rows of spaces; base -/
import Derived.Test.YtmdgbcbnciaikaaF
import Derived.Test.YtmdgbcbnciaikaaShelf
namespace Go.Proofs.Ytmdgbcbnciaikaa
open Go.RowKit Go.Sort

attribute [local go_sem ↓] Go.wp_at_zero Go.wp_at_succ

instance : Inhabited Spc := ⟨sp0⟩
def SortedB (L : List Spc) : Prop := L.Pairwise (fun a b => a.base < b.base)
theorem cells_get! {L : List Spc} {t : Nat} (h : t < L.length * 3) : (recs spC L)[t]? = some ((spC (L.getD (t / 3) sp0))[t % 3]!) := by
  have h3 : t % 3 < 3 := Nat.mod_lt _ (by decide)
  have hj : t / 3 < L.length := by omega
  have := recs_get spC_len (L := L) (j := t / 3) (i := t % 3) (x := L.getD (t / 3) sp0) (v := (spC (L.getD (t / 3) sp0))[t % 3]!) h3 (by simp [List.getD, hj]) (by
    have hl : (spC (L.getD (t / 3) sp0)).length = 3 := rfl
    rw [List.getElem?_eq_getElem (by omega), getElem!_pos _ _ (by omega)])
  rw [show t / 3 * 3 + t % 3 = t by omega] at this
  exact this
theorem flat_get {L : List Spc} {t : Nat} (h : t < L.length * 3) : (recs spC L)[t]? = some ((flatK spC 3 L.toArray)[t]!) := by
  rw [get_flatK spC 3 L.toArray t (by simpa using h), cells_get! h]
  have e : L.toArray[t / 3]! = L.getD (t / 3) sp0 := by
    have hj : t / 3 < L.length := by omega
    simp [List.getD, hj]
  rw [e]

theorem SpRow.holds {w : World} {g cap : Nat} {L : List Spc} (h : SpRow w (some ⟨g, 0, none⟩) cap L) : HoldsK spC 3 w g 0 L.toArray := by
  intro j hj
  rw [size_flatK] at hj
  have hj' : j < L.length * 3 := by simpa using hj
  have h2 := h.src.2.2 ⟨g, 0, none⟩ rfl j _ (flat_get hj')
  rw [Addr.add_lit] at h2
  refine ⟨h2, ?_⟩
  rcases h.form with ⟨h1, _⟩ | ⟨g', cur, h1, _, hh, _⟩
  · cases h1
  · cases h1; exact frozen_of_heap hh _
theorem sortWorld_heap {w : World} {E : TypeId} {g : Nat} {cur : Array Value} (d : Array Spc) (n : Nat) (os : Array Obj) (h : w.heap[g]? = some (.cells cur E (0, 0))) :
    (sortWorldK spC 3 w g 0 n d os).heap[g]? = some (.cells (putCells id 0 (flatK spC 3 d) cur) E (0, 0)) := by
  have hlt := lt_of_heap h
  unfold sortWorldK grow putRowK putRow mapBlock
  show ((w.heap.modify g _) ++ os)[g]? = _
  rw [Array.getElem?_append_left (by simpa using hlt), Array.getElem?_modify, if_pos rfl, h]
  rfl
theorem sortWorld_keeps {w : World} {g : Nat} (d : Array Spc) (n : Nat) (os : Array Obj) : Keeps (· = g) w (sortWorldK spC 3 w g 0 n d os) := by
  refine ⟨rfl, rfl, rfl, ?_, fun k hk hn => ?_⟩
  · unfold sortWorldK grow putRowK putRow mapBlock
    show w.heap.size ≤ ((w.heap.modify g _) ++ os).size
    simp
  · unfold sortWorldK grow putRowK putRow mapBlock
    show ((w.heap.modify g _) ++ os)[k]? = _
    rw [Array.getElem?_append_left (by simpa using hk), Array.getElem?_modify, if_neg (fun e => hn e.symm)]
theorem SpRow.sorted {w : World} {g cap : Nat} {L : List Spc} (h : SpRow w (some ⟨g, 0, none⟩) cap L) (d : Array Spc) (hd : d.size = L.length) (n : Nat) (os : Array Obj) : SpRow (sortWorldK spC 3 w g 0 n d os) (some ⟨g, 0, none⟩) cap d.toList := by
  obtain ⟨hl, hc⟩ := h
  have hdl : d.toList.length = L.length := by simpa using hd
  refine ⟨by rw [recs_len spC_len], ?_⟩
  rcases hc with ⟨hv, _⟩ | ⟨g', cap', cur, hv, hb, hh, r1, r2, r3, r4⟩
  · cases hv
  · simp only [Value.slice.injEq, Option.some.injEq, Addr.mk.injEq] at hv
    obtain ⟨⟨rfl, _, _⟩, _, rfl⟩ := hv
    refine .inr ⟨g, cap, putCells id 0 (flatK spC 3 d) cur, rfl, hb, sortWorld_heap d n os hh, by omega, r2, by simpa [putCells] using r3, ?_⟩
    apply List.ext_getElem?
    intro t
    rw [List.getElem?_take]
    by_cases ht : t < d.toList.length * 3
    · rw [if_pos ht, flat_get ht]
      have hcs : t < cur.size := by rw [r3]; omega
      simp only [putCells, Array.toArray_toList, Array.getElem?_toList, Array.getElem?_mapIdx, Array.getElem?_eq_getElem hcs, Option.map_some]
      have hfs : t < (flatK spC 3 d).size := by rw [size_flatK]; simpa using ht
      rw [if_pos ⟨Nat.zero_le _, by omega⟩, Nat.sub_zero]; rfl
    · rw [if_neg ht, List.getElem?_eq_none (by rw [recs_len spC_len]; omega)]

/-! ### the comparison -/
set_option maxHeartbeats 1000000 in
theorem cmp36 (x y : Spc) (W : World) : Calls Try.prog 36 #[.agg #[.int .i64 x.id, .int .i64 x.base, .int .i64 x.size], .agg #[.int .i64 y.id, .int .i64 y.base, .int .i64 y.size]] W fun e w' => e = .returned (.int .i64 (Lib.compareInt x.base y.base)) ∧ ∃ q os', w' = grow (W.drewN q) os' := by
  have hcon := fun W' => AnyG.cmp_Compare_int Try.cmpE x.base y.base W'
  change ∀ W', Calls Try.prog 37 _ _ _ at hcon
  generalize Lib.compareInt x.base y.base = r at hcon ⊢
  go_enter Try.func36, Try.ntmps36
  go_wp2_with (go_at_call 37; refine (hcon _).mono ?_; rintro e w' ⟨rfl, rfl⟩)
  go_ret
  exact ⟨rfl, 0, _, by rw [alloc_eq_grow, alloc_eq_grow, grow_grow]; rfl⟩
theorem cmpLays36 (blk off size : Nat) (w : World) : CmpLays Try.prog 36 #[] spC 3 (fun x y : Spc => Lib.compareInt x.base y.base) blk off size w := fun _ _ _ _ x y => cmp36 x y _
theorem ltBase (x y : Spc) : ltOf (fun x y : Spc => Lib.compareInt x.base y.base) x y = decide (x.base < y.base) := by
  unfold ltOf Lib.compareInt
  by_cases h1 : x.base < y.base
  · simp [h1]
  · by_cases h2 : y.base < x.base <;> simp [h1, h2]
theorem swoBase : SWO (ltOf fun x y : Spc => Lib.compareInt x.base y.base) where
  irrefl x := by rw [ltBase]; simp
  trans x y z h1 h2 := by rw [ltBase] at *; simp at *; omega
  ntrans x y z h1 h2 := by rw [ltBase] at *; simp at *; omega

theorem sort_any {w : World} {g cap : Nat} {L : List Spc} (h : SpRow w (some ⟨g, 0, none⟩) cap L) (hlen : L.length ≤ 1000000) (hnd : (L.map (·.base)).Nodup) :
    Calls Try.prog 35 #[.slice (some ⟨g, 0, none⟩) L.length cap, .func (.func 36) #[] #[]] w fun e w' => e = .returned (.tuple #[]) ∧ ∃ M, M.Perm L ∧ SortedB M ∧ SpRow w' (some ⟨g, 0, none⟩) cap M ∧ Keeps (· = g) w w' := by
  have eg : ∀ args w, (callFunc 36 args).run Try.prog w = .ok (.enter 36 args) w := enters_of Try.func36 (by kernel_rfl) rfl
  have hblk : g < w.heap.size := RowAt.lt h rfl
  have hcon := AnyQ.slices_SortFunc Try.sortE 3 Try.isAgg30 Try.sizeOf30 spC (fun _ => rfl) (fun x => by intro u hu; exact spC_one [x] u (by simpa [recs] using hu)) (fun x y => Lib.compareInt x.base y.base) swoBase 36 #[] g 0 cap L.toArray w eg (cmpLays36 g 0 _ w) h.holds hblk (by simp; omega)
  change Calls Try.prog 35 _ _ _ at hcon
  rw [List.size_toArray] at hcon
  refine hcon.mono ?_
  rintro e w' ⟨rfl, d, n, os, hp, hs, rfl⟩
  obtain ⟨h1, _, h3⟩ := hp
  have hds : d.size = L.length := by simpa using h1
  have hperm : d.toList.Perm L := by
    have e1 : (d.extract 0 L.length).toList = d.toList := by rw [← hds]; simp
    have e2 : (L.toArray.extract 0 L.length).toList = L := by simp
    rw [e1, e2] at h3
    exact h3
  refine ⟨rfl, d.toList, hperm, ?_, h.sorted d hds n os, sortWorld_keeps d n os⟩
  have hnd2 : (d.toList.map (·.base)).Nodup := (hperm.map _).nodup_iff.2 hnd
  unfold SortedB
  rw [List.pairwise_iff_getElem]
  intro i j hi hj hij
  have hi' : i < d.size := by simpa using hi
  have hj' : j < d.size := by simpa using hj
  have := hs i j (Nat.zero_le _) hij (by omega)
  rw [ltBase, getElem!_pos d j hj', getElem!_pos d i hi'] at this
  simp only [decide_eq_false_iff_not] at this
  have hne : d[i].base ≠ d[j].base := by
    rw [List.Nodup, List.pairwise_map, List.pairwise_iff_getElem] at hnd2
    exact hnd2 i j hi hj hij
  simp only [Array.getElem_toList]
  omega
end Go.Proofs.Ytmdgbcbnciaikaa
