/- stripe: a leaf joined to another one: plain laws -/
import Derived.Test.YtdgcbjkopmlegaaD
namespace Go.Proofs.Ytdgcbjkopmlegaa
open Go.RowKit

/-- place by place, as far as the second one goes -/
def zipTo {α β : Type} (f : α → β → α) : List α → List β → List α
  | [], _ => []
  | y :: ys, [] => y :: ys
  | y :: ys, x :: xs => f y x :: zipTo f ys xs
theorem zipTo_nil {α β : Type} (f : α → β → α) : ∀ ys : List α, zipTo f ys [] = ys
  | [] => rfl
  | _ :: _ => rfl
theorem zipTo_len {α β : Type} (f : α → β → α) : ∀ (ys : List α) (xs : List β), (zipTo f ys xs).length = ys.length
  | [], _ => rfl
  | y :: ys, [] => rfl
  | y :: ys, x :: xs => by simp [zipTo, zipTo_len f ys xs]
theorem zipTo_step {α β : Type} (f : α → β → α) : ∀ (ys : List α) (xs : List β) (q : Nat) (hx : q < xs.length) (hy : q < ys.length), (zipTo f ys (xs.take q))[q]? = some ys[q] ∧ (zipTo f ys (xs.take q)).set q (f ys[q] xs[q]) = zipTo f ys (xs.take (q + 1))
  | ys, [], q, h, _ => by simp at h
  | [], x :: xs, q, _, h => by simp at h
  | y :: ys, x :: xs, 0, _, _ => by simp [zipTo, zipTo_nil]
  | y :: ys, x :: xs, q + 1, h, hl => by
    obtain ⟨h1, h2⟩ := zipTo_step f ys xs q (by simpa using h) (by simpa using hl)
    simp only [List.take_succ_cons, zipTo, List.set_cons_succ, List.getElem_cons_succ, List.getElem?_cons_succ]
    rw [h2]
    exact ⟨h1, rfl⟩
def slXor (a b : Sl) : Sl := ⟨bits .xor .u32 a.key b.key, bits .xor .i64 a.st b.st, bits .xor .u64 a.seq b.seq⟩
def joinUp (y x : Lf) (q : Nat) : Lf := ⟨zipTo slXor y.sl (x.sl.take q), zipTo (addTo .u8) y.se (x.se.take q)⟩
def joinLf (y x : Lf) : Lf := ⟨zipTo slXor y.sl x.sl, zipTo (addTo .u8) y.se x.se⟩
theorem joinUp_zero (y x : Lf) : joinUp y x 0 = y := by simp [joinUp, zipTo_nil]
theorem joinUp_all {y x : Lf} {n : Nat} (h1 : x.sl.length = n) (h2 : x.se.length = n) : joinUp y x n = joinLf y x := by
  unfold joinUp joinLf
  rw [List.take_of_length_le (by omega), List.take_of_length_le (by omega)]

/-- a row of numbers that fills its block -/
theorem NumRow.heap {k : IntKind} {w : World} {E : TypeId} {g : Nat} {ys : List Int} (h : NumRow k w E (some ⟨g, 0, none⟩) ys.length ys) : w.heap[g]? = some (.cells (ys.map (Value.int k)).toArray E) := by
  rcases h.form with ⟨h1, _⟩ | ⟨g', cur, ha, hn, hh, hs, ht⟩
  · cases h1
  · cases ha
    rw [hh]
    congr 2
    apply Array.toList_inj.1
    rw [← ht, List.take_of_length_le (by simp [hs])]
theorem NumRow.of_heap {k : IntKind} {w : World} {E : TypeId} {g : Nat} {ys : List Int} (h : w.heap[g]? = some (.cells (ys.map (Value.int k)).toArray E)) (hl : ys.length ≤ maxLen) : NumRow k w E (some ⟨g, 0, none⟩) ys.length ys :=
  ⟨by simp, .inr ⟨g, ys.length, _, rfl, Nat.zero_le _, h, Nat.le_refl _, hl, by simp, by rw [Nat.mul_one]; exact List.take_of_length_le (by simp)⟩⟩
theorem NumsAt.one {k : IntKind} {w : World} {b : Nat} {x : Int} {t : TypeId} {fr : Nat × Nat} (h : w.heap[b]? = some (.cells #[.int k x] t fr)) : NumsAt k w (some ⟨b, 0, none⟩) [x] := by
  intro j hj
  have hj0 : j = 0 := by simp at hj; exact hj
  subst hj0
  exact ⟨b, 0, rfl, cell_of_heap h 0⟩

theorem one33 {wc : World} {g : Nat} {y : Int} (x : Int) (hg : wc.heap[g]? = some (.cells #[.int .u32 y] 41)) :
    Calls Try.prog 33 #[.slice (some ⟨g, 0, none⟩) 1 1, .slice (some ⟨wc.heap.size + 1, 0, none⟩) 1 1] ((wc.alloc (.cells #[.int .u32 x] 41)).alloc (.cells #[.slice (some ⟨wc.heap.size, 0, none⟩) 1 1] 70)) fun e w' => e = .returned (.tuple #[]) ∧ w'.heap[g]? = some (.cells #[.int .u32 (bits .xor .u32 y x)] 41) ∧ Keeps (· = g) wc w' := by
  have k2 : Keeps (· = g) wc ((wc.alloc (.cells #[.int .u32 x] 41)).alloc (.cells #[.slice (some ⟨wc.heap.size, 0, none⟩) 1 1] 70)) := ((Keeps.refl (· = g) wc).alloc _).alloc _
  have hgl := lt_of_heap hg
  have hg2 := heap_alloc_old (o' := .cells #[.slice (some ⟨wc.heap.size, 0, none⟩) 1 1] 70) (heap_alloc_old (o' := .cells #[.int .u32 x] 41) hg)
  have ha := heap_alloc_old (o' := .cells #[.slice (some ⟨wc.heap.size, 0, none⟩) 1 1] 70) (heap_alloc_new wc (.cells #[.int .u32 x] 41))
  have hb := heap_alloc_new (wc.alloc (.cells #[.int .u32 x] 41)) (.cells #[.slice (some ⟨wc.heap.size, 0, none⟩) 1 1] 70)
  rw [heap_alloc_size] at hb
  have h1 : NumRow .u32 ((wc.alloc (.cells #[.int .u32 x] 41)).alloc (.cells #[.slice (some ⟨wc.heap.size, 0, none⟩) 1 1] 70)) 41 (some ⟨g, 0, none⟩) 1 [y] := NumRow.of_heap (ys := [y]) hg2 (by simp [maxLen])
  refine (add33 (ys := [y]) (xs := [x]) h1 (cell_of_heap hb 0) (NumsAt.one ha) (Nat.le_refl _) (by simp) (fun b e _ => ?_) (by omega)).mono ?_
  · have e0 : wc.heap.size = b := by simpa [blk] using e
    omega
  · rintro e w' ⟨rfl, h2, h3⟩
    exact ⟨rfl, NumRow.heap (ys := [bits .xor .u32 y x]) h2, k2.trans h3⟩
theorem one34 {wc : World} {g : Nat} {y : Int} (x : Int) (hg : wc.heap[g]? = some (.cells #[.int .i64 y] 3)) :
    Calls Try.prog 34 #[.slice (some ⟨g, 0, none⟩) 1 1, .slice (some ⟨wc.heap.size + 1, 0, none⟩) 1 1] ((wc.alloc (.cells #[.int .i64 x] 3)).alloc (.cells #[.slice (some ⟨wc.heap.size, 0, none⟩) 1 1] 71)) fun e w' => e = .returned (.tuple #[]) ∧ w'.heap[g]? = some (.cells #[.int .i64 (bits .xor .i64 y x)] 3) ∧ Keeps (· = g) wc w' := by
  have k2 : Keeps (· = g) wc ((wc.alloc (.cells #[.int .i64 x] 3)).alloc (.cells #[.slice (some ⟨wc.heap.size, 0, none⟩) 1 1] 71)) := ((Keeps.refl (· = g) wc).alloc _).alloc _
  have hgl := lt_of_heap hg
  have hg2 := heap_alloc_old (o' := .cells #[.slice (some ⟨wc.heap.size, 0, none⟩) 1 1] 71) (heap_alloc_old (o' := .cells #[.int .i64 x] 3) hg)
  have ha := heap_alloc_old (o' := .cells #[.slice (some ⟨wc.heap.size, 0, none⟩) 1 1] 71) (heap_alloc_new wc (.cells #[.int .i64 x] 3))
  have hb := heap_alloc_new (wc.alloc (.cells #[.int .i64 x] 3)) (.cells #[.slice (some ⟨wc.heap.size, 0, none⟩) 1 1] 71)
  rw [heap_alloc_size] at hb
  have h1 : NumRow .i64 ((wc.alloc (.cells #[.int .i64 x] 3)).alloc (.cells #[.slice (some ⟨wc.heap.size, 0, none⟩) 1 1] 71)) 3 (some ⟨g, 0, none⟩) 1 [y] := NumRow.of_heap (ys := [y]) hg2 (by simp [maxLen])
  refine (add34 (ys := [y]) (xs := [x]) h1 (cell_of_heap hb 0) (NumsAt.one ha) (Nat.le_refl _) (by simp) (fun b e _ => ?_) (by omega)).mono ?_
  · have e0 : wc.heap.size = b := by simpa [blk] using e
    omega
  · rintro e w' ⟨rfl, h2, h3⟩
    exact ⟨rfl, NumRow.heap (ys := [bits .xor .i64 y x]) h2, k2.trans h3⟩
theorem one35 {wc : World} {g : Nat} {y : Int} (x : Int) (hg : wc.heap[g]? = some (.cells #[.int .u64 y] 42)) :
    Calls Try.prog 35 #[.slice (some ⟨g, 0, none⟩) 1 1, .slice (some ⟨wc.heap.size + 1, 0, none⟩) 1 1] ((wc.alloc (.cells #[.int .u64 x] 42)).alloc (.cells #[.slice (some ⟨wc.heap.size, 0, none⟩) 1 1] 72)) fun e w' => e = .returned (.tuple #[]) ∧ w'.heap[g]? = some (.cells #[.int .u64 (bits .xor .u64 y x)] 42) ∧ Keeps (· = g) wc w' := by
  have k2 : Keeps (· = g) wc ((wc.alloc (.cells #[.int .u64 x] 42)).alloc (.cells #[.slice (some ⟨wc.heap.size, 0, none⟩) 1 1] 72)) := ((Keeps.refl (· = g) wc).alloc _).alloc _
  have hgl := lt_of_heap hg
  have hg2 := heap_alloc_old (o' := .cells #[.slice (some ⟨wc.heap.size, 0, none⟩) 1 1] 72) (heap_alloc_old (o' := .cells #[.int .u64 x] 42) hg)
  have ha := heap_alloc_old (o' := .cells #[.slice (some ⟨wc.heap.size, 0, none⟩) 1 1] 72) (heap_alloc_new wc (.cells #[.int .u64 x] 42))
  have hb := heap_alloc_new (wc.alloc (.cells #[.int .u64 x] 42)) (.cells #[.slice (some ⟨wc.heap.size, 0, none⟩) 1 1] 72)
  rw [heap_alloc_size] at hb
  have h1 : NumRow .u64 ((wc.alloc (.cells #[.int .u64 x] 42)).alloc (.cells #[.slice (some ⟨wc.heap.size, 0, none⟩) 1 1] 72)) 42 (some ⟨g, 0, none⟩) 1 [y] := NumRow.of_heap (ys := [y]) hg2 (by simp [maxLen])
  refine (add35 (ys := [y]) (xs := [x]) h1 (cell_of_heap hb 0) (NumsAt.one ha) (Nat.le_refl _) (by simp) (fun b e _ => ?_) (by omega)).mono ?_
  · have e0 : wc.heap.size = b := by simpa [blk] using e
    omega
  · rintro e w' ⟨rfl, h2, h3⟩
    exact ⟨rfl, NumRow.heap (ys := [bits .xor .u64 y x]) h2, k2.trans h3⟩
theorem sec36 {W : World} {d S rb rcap : Nat} {ra : Option Addr} {ry rx : List Int} (hg : W.heap[d]? = some (.cells (dcells ry).toArray 5)) (hry : ry.length = S) (hS : S ≤ 1000000) (hrow : W.heap[rb]? = some (.cells #[.slice ra rx.length rcap] 45)) (hx : NumsAt .u8 W ra rx) (hle : rx.length ≤ S) (hne : ∀ b, blk ra = some b → 0 < rx.length → b ≠ d) :
    Calls Try.prog 36 #[.slice (some ⟨d, 0, none⟩) S S, .slice (some ⟨rb, 0, none⟩) 1 1] W fun e w' => e = .returned (.tuple #[]) ∧ w'.heap[d]? = some (.cells (dcells (addTo .u8 ry rx)).toArray 5) ∧ Keeps (· = d) W w' := by
  subst hry
  have h1 : NumRow .u8 W 5 (some ⟨d, 0, none⟩) ry.length ry := NumRow.of_heap hg (by unfold maxLen; omega)
  refine (add36 h1 (cell_of_heap hrow 0) hx hle (by omega) hne (fun e => ?_)).mono ?_
  · subst e
    rw [hg] at hrow
    injection hrow with h1; injection h1 with _ h2 _; exact absurd h2 (by decide)
  · rintro e w' ⟨rfl, h2, h3⟩
    refine ⟨rfl, NumRow.heap (ys := addTo .u8 ry rx) ?_, h3⟩
    rw [addTo_len]
    exact h2
/-- a slot of a row that fills its block is written -/
theorem slots_set {w : World} {sg q : Nat} {L : List Sl} {x : Sl} (h : w.heap[sg]? = some (.cells (recs slC L).toArray 44)) (hx : L[q]? = some x) (y : Sl) :
    (((w.setCell ⟨sg, q * 3, none⟩ (.int .u32 y.key)).setCell ⟨sg, q * 3 + 1, none⟩ (.int .i64 y.st)).setCell ⟨sg, q * 3 + 2, none⟩ (.int .u64 y.seq)).heap[sg]? = some (.cells (recs slC (L.set q y)).toArray 44) := by
  have hq : q < L.length := (List.getElem?_eq_some_iff.1 hx).1
  have h1 := heap_setCell_same h (q * 3) (.int .u32 y.key)
  have e1 := recs_set slC_len (i := 0) (y := ⟨y.key, x.st, x.seq⟩) (v := .int .u32 y.key) (by decide) hx rfl
  have e2 := recs_set slC_len (L := L.set q ⟨y.key, x.st, x.seq⟩) (j := q) (i := 1) (x := ⟨y.key, x.st, x.seq⟩) (y := ⟨y.key, y.st, x.seq⟩) (v := .int .i64 y.st) (by decide) (by simp [hq]) rfl
  have e3 := recs_set slC_len (L := (L.set q ⟨y.key, x.st, x.seq⟩).set q ⟨y.key, y.st, x.seq⟩) (j := q) (i := 2) (x := ⟨y.key, y.st, x.seq⟩) (y := y) (v := .int .u64 y.seq) (by decide) (by simp [hq]) rfl
  rw [Nat.add_zero] at e1
  have h2 := heap_setCell_same h1 (q * 3 + 1) (.int .i64 y.st)
  have h3 := heap_setCell_same h2 (q * 3 + 2) (.int .u64 y.seq)
  rw [h3]
  congr 2
  apply Array.toList_inj.1
  simp only [Array.toList_setIfInBounds]
  rw [e1, e2, e3, List.set_set, List.set_set]

theorem OwnLf.slot {w : World} {S sg bg q : Nat} {ds : List Nat} {x : Lf} {s : Sl} (h : OwnLf w S sg bg ds x) (hs : x.sl[q]? = some s) : w.cell? ⟨sg, q * 3, none⟩ = some (.int .u32 s.key) ∧ w.cell? ⟨sg, q * 3 + 1, none⟩ = some (.int .i64 s.st) ∧ w.cell? ⟨sg, q * 3 + 2, none⟩ = some (.int .u64 s.seq) := by
  have hg := fun i v (hi : i < 3) (hv : (slC s)[i]? = some v) => (by
    have := recs_get slC_len hi hs hv
    rw [cell_of_heap h.sl]
    simpa using this : w.cell? ⟨sg, q * 3 + i, none⟩ = some v)
  exact ⟨hg 0 _ (by decide) rfl, hg 1 _ (by decide) rfl, hg 2 _ (by decide) rfl⟩
theorem OwnLf.row {w : World} {S sg bg q : Nat} {ds : List Nat} {x : Lf} {d : Nat} (h : OwnLf w S sg bg ds x) (hd : ds[q]? = some d) : w.cell? ⟨bg, q, none⟩ = some (.slice (some ⟨d, 0, none⟩) S S) := by
  rw [cell_of_heap h.se]
  simp [hd, dsl]
/-- the slot at q is written -/
theorem OwnLf.setSlot {w : World} {S sg bg q : Nat} {ds : List Nat} {x : Lf} {s : Sl} (h : OwnLf w S sg bg ds x) (hs : x.sl[q]? = some s) (y : Sl) :
    OwnLf (((w.setCell ⟨sg, q * 3, none⟩ (.int .u32 y.key)).setCell ⟨sg, q * 3 + 1, none⟩ (.int .i64 y.st)).setCell ⟨sg, q * 3 + 2, none⟩ (.int .u64 y.seq)) S sg bg ds ⟨x.sl.set q y, x.se⟩ := by
  have k : Keeps (· = sg) w (((w.setCell ⟨sg, q * 3, none⟩ (.int .u32 y.key)).setCell ⟨sg, q * 3 + 1, none⟩ (.int .i64 y.st)).setCell ⟨sg, q * 3 + 2, none⟩ (.int .u64 y.seq)) := (((Keeps.refl (· = sg) w).setCell (.inl rfl) _).setCell (.inl rfl) _).setCell (.inl rfl) _
  refine ⟨slots_set h.sl hs y, k.heap h.se ?_, fun i d hd => ?_, by simpa using h.n1, by simpa using h.n2, h.nd⟩
  · intro e
    have := h.se
    rw [e, h.sl] at this
    injection this with h1; injection h1 with _ h2 _; exact absurd h2 (by decide)
  · obtain ⟨r, h1, h2, h3⟩ := h.da i d hd
    refine ⟨r, h1, h2, k.heap h3 ?_⟩
    intro e
    rw [e, h.sl] at h3
    injection h3 with h1; injection h1 with _ h2 _; exact absurd h2 (by decide)
/-- the sector at q is written -/
theorem OwnLf.setSec {w w' : World} {S sg bg q d : Nat} {ds : List Nat} {x : Lf} {r : List Int} (h : OwnLf w S sg bg ds x) (hd : ds[q]? = some d) (hr : r.length = S) (hw : w'.heap[d]? = some (.cells (dcells r).toArray 5)) (hk : Keeps (· = d) w w') :
    OwnLf w' S sg bg ds ⟨x.sl, x.se.set q r⟩ := by
  obtain ⟨r0, g1, g2, g3⟩ := h.da q d hd
  have hq : q < x.se.length := (List.getElem?_eq_some_iff.1 g1).1
  have hqd : q < ds.length := (List.getElem?_eq_some_iff.1 hd).1
  refine ⟨hk.heap h.sl ?_, hk.heap h.se ?_, fun i d' hd' => ?_, h.n1, by simpa using h.n2, h.nd⟩
  · rintro rfl
    rw [h.sl] at g3
    injection g3 with h1; injection h1 with _ h2 _; exact absurd h2 (by decide)
  · rintro rfl
    rw [h.se] at g3
    injection g3 with h1; injection h1 with _ h2 _; exact absurd h2 (by decide)
  · by_cases hi : i = q
    · subst hi
      rw [hd] at hd'; cases hd'
      exact ⟨r, by simp [hq], hr, hw⟩
    · obtain ⟨r', f1, f2, f3⟩ := h.da i d' hd'
      have hne : d' ≠ d := by
        rintro rfl
        have hil : i < ds.length := (List.getElem?_eq_some_iff.1 hd').1
        have e1 : ds[i] = d' := by rw [List.getElem?_eq_getElem hil] at hd'; exact Option.some.inj hd'
        have e2 : ds[q] = d' := by rw [List.getElem?_eq_getElem hqd] at hd; exact Option.some.inj hd
        rcases Nat.lt_or_gt_of_ne hi with h5 | h5
        · exact List.pairwise_iff_getElem.1 h.nd i q hil hqd h5 (e1.trans e2.symm)
        · exact List.pairwise_iff_getElem.1 h.nd q i hqd hil h5 (e2.trans e1.symm)
      exact ⟨r', by rw [List.getElem?_set_ne (fun e => hi e.symm)]; exact f1, f2, hk.heap f3 hne⟩
/-- a leaf of the call's own is read -/
theorem OwnLf.at {w : World} {S sg bg : Nat} {ds : List Nat} {x : Lf} (h : OwnLf w S sg bg ds x) : LfAt w (some ⟨sg, 0, none⟩) (some ⟨bg, 0, none⟩) x := by
  refine ⟨fun i hi => ?_, fun i hi => ?_⟩
  · obtain ⟨h1, h2, h3⟩ := h.slot (List.getElem?_eq_getElem hi)
    exact ⟨sg, 0, rfl, by rw [Nat.zero_add]; exact h1, by rw [Nat.zero_add]; exact h2, by rw [Nat.zero_add]; exact h3⟩
  · have hid : i < ds.length := by rw [h.n1, ← h.n2]; exact hi
    obtain ⟨r, g1, g2, g3⟩ := h.da i ds[i] (List.getElem?_eq_getElem hid)
    rw [List.getElem?_eq_getElem hi] at g1
    have e : x.se[i] = r := Option.some.inj g1
    refine ⟨bg, 0, some ⟨ds[i], 0, none⟩, S, rfl, ?_, ?_⟩
    · rw [Nat.zero_add, h.row (List.getElem?_eq_getElem hid), e, g2]
    · rw [e]
      intro j hj
      refine ⟨ds[i], 0, rfl, ?_⟩
      rw [Nat.zero_add, cell_of_heap g3]
      simp [dcells, gi_eq hj, hj]
theorem OwnLf.len {w : World} {S sg bg : Nat} {ds : List Nat} {x : Lf} (h : OwnLf w S sg bg ds x) {i : Nat} (hi : i < x.se.length) : x.se[i].length = S := by
  have hid : i < ds.length := by rw [h.n1, ← h.n2]; exact hi
  obtain ⟨r, g1, g2, g3⟩ := h.da i ds[i] (List.getElem?_eq_getElem hid)
  rw [List.getElem?_eq_getElem hi] at g1
  rw [Option.some.inj g1]; exact g2
end Go.Proofs.Ytdgcbjkopmlegaa
