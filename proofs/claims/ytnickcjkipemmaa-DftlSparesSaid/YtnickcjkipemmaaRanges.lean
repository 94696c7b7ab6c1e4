/- ranging over a map with keys of type int that the call has made: its entries are a list, whatever the order in which they come -/
import Derived.Test.YtnickcjkipemmaaMaps
import Derived.Maps.RangeRun
namespace Go.Proofs.Ytnickcjkipemmaa
open Go.RowKit Go.ChangeMaps Go.MapKept

theorem setBlock_same {w : World} {r : Nat} {x : Obj} (h : w.heap[r]? = some x) (o : Obj) : (setBlock w r o).heap[r]? = some o := by
  have := lt_of_heap h
  simp [setBlock, this]
theorem setBlock_other {w : World} {r : Nat} (o : Obj) {i : Nat} (hi : i ≠ r) : (setBlock w r o).heap[i]? = w.heap[i]? := by
  simp [setBlock, Ne.symm hi]
/-- Block b is a map whose entries are just f; its stamps are in order. -/
def MapB (w : World) (b : Nat) (f : List (Int × Value)) : Prop := ∃ es clock, w.heap[b]? = some (.map es clock) ∧ es.toList.map (fun e => (e.key, e.val)) = ents f ∧ (∀ x ∈ es.toList, x.born < clock) ∧ (es.toList.map (·.born)).Nodup
theorem MapB.at {w : World} {b : Nat} {f : List (Int × Value)} (h : MapB w b f) : MapAt w b f := by
  obtain ⟨es, c, h1, h2, _⟩ := h
  exact ⟨es, c, h1, h2⟩
theorem MapB.keeps {S : Nat → Prop} {w w' : World} {b : Nat} {f : List (Int × Value)} (h : MapB w b f) (hk : Keeps S w w') (hn : ¬ S b) : MapB w' b f := by
  obtain ⟨es, c, h1, h2⟩ := h
  exact ⟨es, c, hk.heap h1 hn, h2⟩
theorem MapB.made (w : World) : MapB (w.alloc (.map #[] 0)) w.heap.size [] := ⟨#[], 0, heap_alloc_new _ _, rfl, (fun x hx => by simp at hx), List.nodup_nil⟩
section
variable {P : Program} {w : World} {T K : TypeId} {b : Nat} {f : List (Int × Value)}
theorem run_updB {E' : TypeId} (hT : P.underlying T = some (.map K E')) (hK : P.underlying K = some (.int .i64)) (h : MapB w b f) (k : Int) (x : Value) :
    ∃ w', (Instr.mapUpdate T (.map (some b)) (.int .i64 k) x).run P w = .ok () w' ∧ MapB w' b (mset k x f) ∧ Keeps (· = b) w w' ∧ w'.heap.size = w.heap.size := by
  obtain ⟨es, c, h1, h2, hb1, hb2⟩ := h
  have hk : ∀ o, Keeps (· = b) w (setBlock w b o) := fun o => ⟨rfl, rfl, rfl, by simp [setBlock], fun i _ hi => heap_setBlock_other h1 _ hi⟩
  cases hm : mfind k f 0 with
  | none =>
    refine ⟨setBlock w b (.map (es.push ⟨.int .i64 k, x, c⟩) (c + 1)), ?_, ⟨_, _, heap_setBlock_same h1 _, ?_, fun y hy => ?_, ?_⟩, hk _, by simp [setBlock]⟩
    · simp [Instr.mapUpdate, run_underlying hT, MapKept.run_getObj_map h1, run_checkKey_int hK, run_findKey_ents hK h2, hm, MapKept.run_setObj_map _ h1, Result.andThen, setBlock]
    · rw [Array.toList_push, List.map_append, h2, mset_none hm]
      simp [ents]
    · rw [Array.toList_push, List.mem_append] at hy
      rcases hy with hy | hy
      · have := hb1 y hy; omega
      · simp only [List.mem_cons, List.not_mem_nil, or_false] at hy
        rw [hy]; exact Nat.lt_succ_self _
    · rw [Array.toList_push, List.map_append, List.nodup_append]
      refine ⟨hb2, by simp, fun y hy z hz e => ?_⟩
      simp only [List.map_cons, List.map_nil, List.mem_cons, List.not_mem_nil, or_false] at hz
      obtain ⟨u, hu, rfl⟩ := List.mem_map.1 hy
      have := hb1 u hu
      omega
  | some p =>
    obtain ⟨j, v⟩ := p
    obtain ⟨r, hj, hjs⟩ := mfind_at hm h2
    simp only [Nat.sub_zero] at hj
    have hja : es[j]? = some r := by simpa using hj
    have hkey : r.key = .int .i64 k := hjs
    have hborn : (es.modify j fun e => { e with key := .int .i64 k, val := x }).toList.map (·.born) = es.toList.map (·.born) := by
      rw [Array.toList_modify, modify_eq_set _ _ _ _ hj, List.map_set]
      apply List.ext_getElem?
      intro i
      rw [List.getElem?_set]
      by_cases hi : j = i
      · subst hi
        rw [if_pos rfl, List.length_map, if_pos (List.getElem?_eq_some_iff.1 hj).1, List.getElem?_map, hj]; rfl
      · rw [if_neg hi]
    refine ⟨setBlock w b (.map (es.modify j fun e => { e with key := .int .i64 k, val := x }) c), ?_, ⟨_, _, heap_setBlock_same h1 _, ?_, fun y hy => ?_, by rw [hborn]; exact hb2⟩, hk _, by simp [setBlock]⟩
    · simp [Instr.mapUpdate, run_underlying hT, MapKept.run_getObj_map h1, run_checkKey_int hK, run_findKey_ents hK h2, hm, hja, hkey, Instr.keyThatStays, Instr.sameBits, MapKept.run_setObj_map _ h1, Result.andThen, setBlock]
    · rw [mset_some hm, Array.toList_modify, modify_eq_set _ _ _ _ hj, List.map_set, h2]
      simp [ents, List.map_set]
    · have hm2 : y.born ∈ es.toList.map (·.born) := by rw [← hborn]; exact List.mem_map_of_mem hy
      obtain ⟨u, hu, hub⟩ := List.mem_map.1 hm2
      rw [← hub]; exact hb1 u hu
/-- Block r is an iterator over the map b; n entries are still to come. -/
def RangeAt (w : World) (r b : Nat) (f : List (Int × Value)) (n : Nat) : Prop :=
  ∃ es clock seen, w.heap[b]? = some (.map es clock) ∧ es.toList.map (fun e => (e.key, e.val)) = ents f ∧ (∀ x ∈ es.toList, x.born < clock) ∧ (es.toList.map (·.born)).Nodup ∧ w.heap[r]? = some (.mapIter (some b) clock seen clock) ∧ (leftOf es seen).size = n
theorem RangeAt.keeps {S : Nat → Prop} {w w' : World} {r : Nat} {n : Nat} (h : RangeAt w r b f n) (hk : Keeps S w w') (hb : ¬ S b) (hr : ¬ S r) : RangeAt w' r b f n := by
  obtain ⟨es, c, s, h1, h2, h3, h4, h5, h6⟩ := h
  exact ⟨es, c, s, hk.heap h1 hb, h2, h3, h4, hk.heap h5 hr, h6⟩
theorem RangeAt.map {r n : Nat} (h : RangeAt w r b f n) : MapB w b f := by
  obtain ⟨es, c, s, h1, h2, h3, h4, h5, h6⟩ := h
  exact ⟨es, c, h1, h2, h3, h4⟩
theorem RangeAt.lt {r n : Nat} (h : RangeAt w r b f n) : r < w.heap.size ∧ b < w.heap.size := by
  obtain ⟨es, c, s, h1, h2, h3, h4, h5, h6⟩ := h
  exact ⟨lt_of_heap h5, lt_of_heap h1⟩
theorem ents_mem {e : MapEntry} {es : List MapEntry} (h : es.map (fun e => (e.key, e.val)) = ents f) (he : e ∈ es) : ∃ k v, (k, v) ∈ f ∧ e.key = .int .i64 k ∧ e.val = v := by
  have : (e.key, e.val) ∈ ents f := by rw [← h]; exact List.mem_map_of_mem (f := fun e : MapEntry => (e.key, e.val)) he
  obtain ⟨p, hp, hpe⟩ := List.mem_map.1 this
  simp only [Prod.mk.injEq] at hpe
  exact ⟨p.1, p.2, hp, hpe.1.symm, hpe.2.symm⟩
end
section
variable {P : Program} (w : World) {ops : Array Oper} {rest : List Oper} {o : Oper} {a : Act} {Q : Exit → Act → World → Prop}
theorem wpList_updB (hg : o.guard = none) (m x v : Operand) (t : TypeId) (hop : o.op = Op.mapUpdate t m x v) (k e : TypeId) (hT : P.underlying t = some (.map k e)) (hK : P.underlying k = some (.int .i64))
    (b : Nat) (f : List (Int × Value)) (hm : a.eval m = .map (some b)) (h : MapB w b f) (j : Int) (hx : a.eval x = .int .i64 j) (y : Value) (hv : a.eval v = y)
    (hn : ∀ w', MapB w' b (mset j y f) → Keeps (· = b) w w' → w'.heap.size = w.heap.size → wpList P ops Q rest (a.put o.dst undef) w') : wpList P ops Q (o :: rest) a w := by
  refine wpList_plain hg fun K' hK' => ?_
  obtain ⟨w', hr, h1, h2, h3⟩ := run_updB hT hK h j y
  unfold Oper.wp
  simp [execOp, hop, hm, hx, hv, hr, Result.andThen]
  exact hK' _ _ (hn w' h1 h2 h3)
theorem wpList_rangeI (hg : o.guard = none) (m : Operand) (t : TypeId) (hop : o.op = Op.range t m) (k e : TypeId) (hT : P.underlying t = some (.map k e))
    (b : Nat) (f : List (Int × Value)) (hm : a.eval m = .map (some b)) (h : MapB w b f)
    (hn : ∀ w' n, RangeAt w' w.heap.size b f n → Keeps Nil w w' → w'.heap.size = w.heap.size + 1 → wpList P ops Q rest (a.put o.dst (.pointer (some ⟨w.heap.size, 0, none⟩))) w') : wpList P ops Q (o :: rest) a w := by
  refine wpList_plain hg fun K' hK' => ?_
  obtain ⟨es, c, h1, h2, h3, h4⟩ := h
  have hr := run_range_map (P := P) w t k e b es c hT h1
  unfold Oper.wp
  simp [execOp, hop, hm, hr, Result.andThen]
  exact hK' _ _ (hn _ (leftOf es #[]).size ⟨es, c, #[], heap_alloc_old h1, h2, h3, h4, heap_alloc_new _ _, rfl⟩ ((Keeps.refl Nil w).alloc _) (by simp))
theorem wpList_nextI (hg : o.guard = none) (it : Operand) (hop : o.op = Op.next it false) (r b n : Nat) (f : List (Int × Value)) (hit : a.eval it = .pointer (some ⟨r, 0, none⟩)) (h : RangeAt w r b f n)
    (hDone : wpList P ops Q rest (a.put o.dst (.tuple #[.bool false])) w)
    (hMore : ∀ (k : Int) (v : Value) (w' : World) (m : Nat), (k, v) ∈ f → m < n → RangeAt w' r b f m → Keeps (· = r) w w' → w'.heap.size = w.heap.size → (Instr.entry (.pointer (some ⟨r, 0, none⟩))).run P w' = .ok (.tuple #[.int .i64 k, v]) w' →
      wpList P ops Q rest (a.put o.dst (.tuple #[.bool true, .int .i64 k, v])) w') : wpList P ops Q (o :: rest) a w := by
  refine wpList_plain hg fun K' hK' => ?_
  obtain ⟨es, c, seen, h1, h2, h3, h4, h5, h6⟩ := h
  unfold Oper.wp
  rcases run_next_at (P := P) w o.type r b c c seen es c h5 h1 h3 (Nat.le_refl _) with ⟨_, hr⟩ | ⟨e, he, w1, hw1, hr⟩
  · simp [execOp, hop, hit, hr, Result.andThen]
    exact hK' _ _ hDone
  · simp [execOp, hop, hit, hr, Result.andThen]
    refine hK' _ _ ?_
    have hme := (mem_left he).1
    obtain ⟨k, v, hkv, hk, hv⟩ := ents_mem h2 hme
    have hne : b ≠ r := by rintro rfl; rw [h1] at h5; cases h5
    have hr1 : w1.heap[r]? = some (.mapIter (some b) c seen c) := by rcases hw1 with rfl | rfl <;> exact h5
    have hb1 : w1.heap[b]? = some (.map es c) := by rcases hw1 with rfl | rfl <;> exact h1
    have hk1 : Keeps Nil w w1 := by
      rcases hw1 with rfl | rfl
      · exact Keeps.refl _ _
      · exact (Keeps.refl _ _).drew
    have hb2 : (setBlock w1 r (.mapIter (some b) c (seen.push e.born) c)).heap[b]? = some (.map es c) := by rw [setBlock_other _ hne]; exact hb1
    have hr2 : (setBlock w1 r (.mapIter (some b) c (seen.push e.born) c)).heap[r]? = some (.mapIter (some b) c (seen.push e.born) c) := setBlock_same hr1 _
    have hks : Keeps (· = r) w (setBlock w1 r (.mapIter (some b) c (seen.push e.born) c)) := (hk1.mono (fun _ h => h.elim)).trans ⟨rfl, rfl, rfl, by simp [setBlock], fun i _ hi => setBlock_other _ hi⟩
    have hsz : (setBlock w1 r (.mapIter (some b) c (seen.push e.born) c)).heap.size = w.heap.size := by rcases hw1 with rfl | rfl <;> simp [setBlock]
    have hent := run_entry_at (P := P) (setBlock w1 r (.mapIter (some b) c (seen.push e.born) c)) r b c seen es c e hr2 hb2 hme h4
    rw [hk, hv] at hent ⊢
    exact hMore k v _ _ hkv (by rw [← h6]; exact left_shrinks es seen e he) ⟨es, c, seen.push e.born, hb2, h2, h3, h4, hr2, rfl⟩ hks hsz hent
end
end Go.Proofs.Ytnickcjkipemmaa
