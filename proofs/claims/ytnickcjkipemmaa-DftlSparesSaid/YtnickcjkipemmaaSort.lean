/- slices.SortFunc over the rows of entries; Clean whole -/
import Derived.Test.YtnickcjkipemmaaClean
import Derived.Test.YtnickcjkipemmaaShelf
namespace Go.Proofs.Ytnickcjkipemmaa
open Go.RowKit Go.Sort

instance : Inhabited Ent := ⟨ent0⟩

/-! ### sorted by key -/
def SortedK (L : List Ent) : Prop := L.Pairwise (fun a b => a.key < b.key)
theorem sorted_unique : ∀ {l m : List Ent}, l.Perm m → SortedK l → SortedK m → l = m
  | [], m, hp, _, _ => (List.nil_perm.1 hp).symm
  | a :: l, m, hp, h1, h2 => by
    cases m with
    | nil => exact absurd hp.length_eq (by simp)
    | cons b m =>
      have p1 := List.pairwise_cons.1 h1
      have p2 := List.pairwise_cons.1 h2
      have hab : a = b := by
        have ha := hp.mem_iff.1 (show a ∈ a :: l by simp)
        have hb := hp.mem_iff.2 (show b ∈ b :: m by simp)
        rcases List.mem_cons.1 ha with h | h
        · exact h
        · rcases List.mem_cons.1 hb with h3 | h3
          · exact h3.symm
          · have := p1.1 b h3
            have := p2.1 a h
            omega
      subst hab
      rw [sorted_unique ((List.perm_cons a).1 hp) p1.2 p2.2]

theorem cells_get! {L : List Ent} {t : Nat} (h : t < L.length * 3) : (cellsE L)[t]? = some ((entC (L.getD (t / 3) ent0))[t % 3]!) := by
  have h3 : t % 3 < 3 := Nat.mod_lt _ (by decide)
  have hj : t / 3 < L.length := by omega
  have := cellsE_get L (t / 3) (t % 3) ((entC (L.getD (t / 3) ent0))[t % 3]!) h3 hj (by
    have hl : (entC (L.getD (t / 3) ent0)).length = 3 := rfl
    rw [List.getElem?_eq_getElem (by omega), getElem!_pos _ _ (by omega)])
  rw [show t / 3 * 3 + t % 3 = t by omega] at this
  exact this
theorem flat_get {L : List Ent} {t : Nat} (h : t < L.length * 3) : (cellsE L)[t]? = some ((flatK entC 3 L.toArray)[t]!) := by
  rw [get_flatK entC 3 L.toArray t (by simpa using h), cells_get! h]
  have e : L.toArray[t / 3]! = L.getD (t / 3) ent0 := by
    have hj : t / 3 < L.length := by omega
    simp [List.getD, hj]
  rw [e]

theorem EntRow.holds {w : World} {E : TypeId} {g cap : Nat} {L : List Ent} (h : EntRow w E (some ⟨g, 0, none⟩) cap L) : HoldsK entC 3 w g 0 L.toArray := by
  intro j hj
  rw [size_flatK] at hj
  have hj' : j < L.length * 3 := by simpa using hj
  have h2 := h.src.2.2 ⟨g, 0, none⟩ rfl j _ (flat_get hj')
  rw [Addr.add_lit] at h2
  refine ⟨h2, ?_⟩
  rcases h.form with ⟨h1, _⟩ | ⟨g', cur, h1, _, hh, _⟩
  · cases h1
  · cases h1; exact frozen_of_heap hh _
theorem sortWorld_heap {w : World} {E : TypeId} {g : Nat} {cur : Array Value} (d : Array Ent) (n : Nat) (os : Array Obj) (h : w.heap[g]? = some (.cells cur E (0, 0))) :
    (sortWorldK entC 3 w g 0 n d os).heap[g]? = some (.cells (putCells id 0 (flatK entC 3 d) cur) E (0, 0)) := by
  have hlt := lt_of_heap h
  unfold sortWorldK grow putRowK putRow mapBlock
  show ((w.heap.modify g _) ++ os)[g]? = _
  rw [Array.getElem?_append_left (by simpa using hlt), Array.getElem?_modify, if_pos rfl, h]
  rfl
theorem sortWorld_keeps {w : World} {g : Nat} (d : Array Ent) (n : Nat) (os : Array Obj) : Keeps (· = g) w (sortWorldK entC 3 w g 0 n d os) := by
  refine ⟨rfl, rfl, rfl, ?_, fun k hk hn => ?_⟩
  · unfold sortWorldK grow putRowK putRow mapBlock
    show w.heap.size ≤ ((w.heap.modify g _) ++ os).size
    simp
  · unfold sortWorldK grow putRowK putRow mapBlock
    show ((w.heap.modify g _) ++ os)[k]? = _
    rw [Array.getElem?_append_left (by simpa using hk), Array.getElem?_modify, if_neg (fun e => hn e.symm)]
theorem EntRow.sorted {w : World} {E : TypeId} {g cap : Nat} {L : List Ent} (h : EntRow w E (some ⟨g, 0, none⟩) cap L) (d : Array Ent) (hd : d.size = L.length) (n : Nat) (os : Array Obj) : EntRow (sortWorldK entC 3 w g 0 n d os) E (some ⟨g, 0, none⟩) cap d.toList := by
  obtain ⟨hl, hc⟩ := h
  have hdl : d.toList.length = L.length := by simpa using hd
  refine ⟨by rw [cellsE_len], ?_⟩
  rcases hc with ⟨hv, _⟩ | ⟨g', cap', cur, hv, hb, hh, r1, r2, r3, r4⟩
  · cases hv
  · simp only [Value.slice.injEq, Option.some.injEq, Addr.mk.injEq] at hv
    obtain ⟨⟨rfl, _, _⟩, _, rfl⟩ := hv
    refine .inr ⟨g, cap, putCells id 0 (flatK entC 3 d) cur, rfl, hb, sortWorld_heap d n os hh, by omega, r2, by simpa [putCells] using r3, ?_⟩
    apply List.ext_getElem?
    intro t
    rw [List.getElem?_take]
    by_cases ht : t < d.toList.length * 3
    · rw [if_pos ht, flat_get ht]
      have hcs : t < cur.size := by rw [r3]; omega
      simp only [putCells, Array.toArray_toList, Array.getElem?_toList, Array.getElem?_mapIdx, Array.getElem?_eq_getElem hcs, Option.map_some]
      have hfs : t < (flatK entC 3 d).size := by rw [size_flatK]; simpa using ht
      rw [if_pos ⟨Nat.zero_le _, by omega⟩, Nat.sub_zero]; rfl
    · rw [if_neg ht, List.getElem?_eq_none (by rw [cellsE_len]; omega)]

/-! ### the comparison -/
set_option maxHeartbeats 1000000 in
theorem cmp44 (x y : Ent) (W : World) : Calls Try.prog 44 #[.agg #[.int .i64 x.key, .int .u64 x.val, .bool x.dirty], .agg #[.int .i64 y.key, .int .u64 y.val, .bool y.dirty]] W fun e w' => e = .returned (.int .i64 (Lib.compareInt x.key y.key)) ∧ ∃ q os', w' = grow (W.drewN q) os' := by
  have hcon := fun W' => AnyG.cmp_Compare_int Try.cmpE x.key y.key W'
  change ∀ W', Calls Try.prog 45 _ _ _ at hcon
  generalize Lib.compareInt x.key y.key = r at hcon ⊢
  go_enter Try.func44, Try.ntmps44
  go_wp2_with (go_at_call 45; refine (hcon _).mono ?_; rintro e w' ⟨rfl, rfl⟩)
  go_ret
  exact ⟨rfl, 0, _, by rw [alloc_eq_grow, alloc_eq_grow, grow_grow]; rfl⟩
theorem cmpLays44 (blk off size : Nat) (w : World) : CmpLays Try.prog 44 #[] entC 3 (fun x y : Ent => Lib.compareInt x.key y.key) blk off size w := fun _ _ _ _ x y => cmp44 x y _
theorem ltKey (x y : Ent) : ltOf (fun x y : Ent => Lib.compareInt x.key y.key) x y = decide (x.key < y.key) := by
  unfold ltOf Lib.compareInt
  by_cases h1 : x.key < y.key
  · simp [h1]
  · by_cases h2 : y.key < x.key <;> simp [h1, h2]
theorem swoKey : SWO (ltOf fun x y : Ent => Lib.compareInt x.key y.key) where
  irrefl x := by rw [ltKey]; simp
  trans x y z h1 h2 := by rw [ltKey] at *; simp at *; omega
  ntrans x y z h1 h2 := by rw [ltKey] at *; simp at *; omega

theorem sort_any {w : World} {g cap : Nat} {L : List Ent} (h : EntRow w 32 (some ⟨g, 0, none⟩) cap L) (hlen : L.length ≤ 1000000) (hnd : (L.map (·.key)).Nodup) :
    Calls Try.prog 43 #[.slice (some ⟨g, 0, none⟩) L.length cap, .func (.func 44) #[] #[]] w fun e w' => e = .returned (.tuple #[]) ∧ ∃ M, M.Perm L ∧ SortedK M ∧ EntRow w' 32 (some ⟨g, 0, none⟩) cap M ∧ Keeps (· = g) w w' := by
  have eg : ∀ args w, (callFunc 44 args).run Try.prog w = .ok (.enter 44 args) w := enters_of Try.func44 (by kernel_rfl) rfl
  have hblk : g < w.heap.size := RowAt.lt h rfl
  have hcon := AnyQ.slices_SortFunc Try.sortE 3 Try.isAgg32 Try.sizeOf32 entC (fun _ => rfl) (fun x => entC_one x) (fun x y => Lib.compareInt x.key y.key) swoKey 44 #[] g 0 cap L.toArray w eg (cmpLays44 g 0 _ w) h.holds hblk (by simp; omega)
  change Calls Try.prog 43 _ _ _ at hcon
  rw [List.size_toArray] at hcon
  refine hcon.mono ?_
  rintro e w' ⟨rfl, d, n, os, hp, hs, rfl⟩
  obtain ⟨h1, _, h3⟩ := hp
  have hds : d.size = L.length := by simpa using h1
  have hperm : d.toList.Perm L := by
    have e1 : (d.extract 0 L.length).toList = d.toList := by rw [← hds]; simp
    have e2 : (L.toArray.extract 0 L.length).toList = L := by simp
    rw [e1, e2] at h3
    exact h3
  refine ⟨rfl, d.toList, hperm, ?_, h.sorted d hds n os, sortWorld_keeps d n os⟩
  have hnd2 : (d.toList.map (·.key)).Nodup := (hperm.map _).nodup_iff.2 hnd
  unfold SortedK
  rw [List.pairwise_iff_getElem]
  intro i j hi hj hij
  have hi' : i < d.size := by simpa using hi
  have hj' : j < d.size := by simpa using hj
  have := hs i j (Nat.zero_le _) hij (by omega)
  rw [ltKey, getElem!_pos d j hj', getElem!_pos d i hi'] at this
  simp only [decide_eq_false_iff_not] at this
  have hne : d[i].key ≠ d[j].key := by
    rw [List.Nodup, List.pairwise_map, List.pairwise_iff_getElem] at hnd2
    exact hnd2 i j hi hj hij
  simp only [Array.getElem_toList]
  omega
end Go.Proofs.Ytnickcjkipemmaa
