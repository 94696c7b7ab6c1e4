/- maps with keys of type int, whatever the elements: the block holds just the entries of a list -/
import Derived.Test.YtglpacdenfoicaaBase
import Derived.Maps.OwnSet
import Derived.Maps.OwnOps
namespace Go.Proofs.Ytglpacdenfoicaa
open Go.RowKit Go.ChangeMaps Go.MapKept

def ents (f : List (Int × Value)) : List (Value × Value) := f.map fun p => (Value.int .i64 p.1, p.2)
/-- Block b is a map whose entries are just f. -/
def MapAt (w : World) (b : Nat) (f : List (Int × Value)) : Prop := ∃ es clock, w.heap[b]? = some (.map es clock) ∧ es.toList.map (fun e => (e.key, e.val)) = ents f

theorem MapAt.keeps {S : Nat → Prop} {w w' : World} {b : Nat} {f : List (Int × Value)} (h : MapAt w b f) (hk : Keeps S w w') (hn : ¬ S b) : MapAt w' b f := by
  obtain ⟨es, c, h1, h2⟩ := h
  exact ⟨es, c, hk.heap h1 hn, h2⟩
theorem MapAt.lt {w : World} {b : Nat} {f : List (Int × Value)} (h : MapAt w b f) : b < w.heap.size := by
  obtain ⟨es, c, h1, h2⟩ := h
  exact lt_of_heap h1
theorem MapAt.made (w : World) : MapAt (w.alloc (.map #[] 0)) w.heap.size [] := ⟨#[], 0, heap_alloc_new _ _, rfl⟩
/-- no block of cells is a map -/
theorem MapAt.ne {w : World} {b g : Nat} {f : List (Int × Value)} {c : Array Value} {t : TypeId} {fr : Nat × Nat} (h : MapAt w b f) (hg : w.heap[g]? = some (.cells c t fr)) : b ≠ g := by
  obtain ⟨es, _, h1, _⟩ := h
  rintro rfl
  rw [h1] at hg; cases hg

def mget (k : Int) : List (Int × Value) → Option Value
  | [] => none
  | (j, v) :: r => if k = j then some v else mget k r
def mset (k : Int) (x : Value) : List (Int × Value) → List (Int × Value)
  | [] => [(k, x)]
  | (j, v) :: r => if k = j then (j, x) :: r else (j, v) :: mset k x r
def mdel (k : Int) : List (Int × Value) → List (Int × Value)
  | [] => []
  | (j, v) :: r => if k = j then r else (j, v) :: mdel k r
def mfind (k : Int) : List (Int × Value) → Nat → Option (Nat × Value)
  | [], _ => none
  | (j, v) :: r, i => if k = j then some (i, v) else mfind k r (i + 1)

theorem mfind_get (k : Int) : ∀ (f : List (Int × Value)) (i : Nat), (mfind k f i).map (·.2) = mget k f
  | [], i => rfl
  | (j, v) :: r, i => by
    rw [mfind, mget]
    split
    · rfl
    · exact mfind_get k r (i + 1)
theorem findNow_ents {k : Int} : ∀ (f : List (Int × Value)) (es : List MapEntry) (i : Nat), es.map (fun e => (e.key, e.val)) = ents f → Instr.findNow (.int .i64) (.int .i64 k) es i = some (mfind k f i)
  | [], es, i, h => by
    have : es = [] := by simpa [ents] using h
    subst this; rfl
  | (j, v) :: r, es, i, h => by
    cases es with
    | nil => simp [ents] at h
    | cons e es =>
      simp only [ents, List.map_cons, List.cons.injEq, Prod.mk.injEq] at h
      obtain ⟨⟨h1, h2⟩, h3⟩ := h
      have ih := findNow_ents (k := k) r es (i + 1) h3
      rw [Instr.findNow, h1, mfind]
      by_cases e1 : k = j
      · simp [Instr.sameNow, e1, h2]
      · have : (k == j) = false := by simpa using e1
        simp only [Instr.sameNow, if_true, this]
        rw [if_neg e1]; exact ih


theorem mfind_ge {k : Int} : ∀ {f : List (Int × Value)} {i j : Nat} {v : Value}, mfind k f i = some (j, v) → i ≤ j
  | [], _, _, _, h => by simp [mfind] at h
  | (q, u) :: r, i, j, v, h => by
    rw [mfind] at h
    by_cases hk : k = q
    · rw [if_pos hk] at h; cases h; exact Nat.le_refl _
    · rw [if_neg hk] at h; have := mfind_ge h; omega
theorem mset_some' {k : Int} {x v : Value} : ∀ {f : List (Int × Value)} {i j : Nat}, mfind k f i = some (j, v) → mset k x f = f.set (j - i) (k, x)
  | [], _, _, h => by simp [mfind] at h
  | (q, u) :: r, i, j, h => by
    have hge := mfind_ge h
    rw [mfind] at h
    by_cases hk : k = q
    · rw [if_pos hk] at h; cases h
      rw [mset, if_pos hk, Nat.sub_self, hk]; rfl
    · rw [if_neg hk] at h
      have h2 := mfind_ge h
      rw [mset, if_neg hk, mset_some' h, show j - i = (j - (i + 1)) + 1 by omega]; rfl
theorem mdel_some' {k : Int} {v : Value} : ∀ {f : List (Int × Value)} {i j : Nat}, mfind k f i = some (j, v) → mdel k f = f.eraseIdx (j - i)
  | [], _, _, h => by simp [mfind] at h
  | (q, u) :: r, i, j, h => by
    rw [mfind] at h
    by_cases hk : k = q
    · rw [if_pos hk] at h; cases h
      rw [mdel, if_pos hk, Nat.sub_self]; rfl
    · rw [if_neg hk] at h
      have h2 := mfind_ge h
      rw [mdel, if_neg hk, mdel_some' h, show j - i = (j - (i + 1)) + 1 by omega]; rfl

theorem mfind_at {k : Int} : ∀ {f : List (Int × Value)} {i j : Nat} {v : Value}, mfind k f i = some (j, v) → ∀ {es : List MapEntry}, es.map (fun e => (e.key, e.val)) = ents f → ∃ r, es[j - i]? = some r ∧ r.key = .int .i64 k
  | [], _, _, _, h, _, _ => by simp [mfind] at h
  | (q, u) :: r, i, j, v, h, es, he => by
    rw [mfind] at h
    cases es with
    | nil => simp [ents] at he
    | cons e es =>
      simp only [ents, List.map_cons, List.cons.injEq, Prod.mk.injEq] at he
      obtain ⟨⟨h1, h2⟩, h3⟩ := he
      by_cases hk : k = q
      · rw [if_pos hk] at h
        cases h
        rw [Nat.sub_self]
        exact ⟨e, rfl, by rw [h1, hk]⟩
      · rw [if_neg hk] at h
        obtain ⟨s, hs, hs2⟩ := mfind_at (i := i + 1) h h3
        have hij := mfind_ge h
        refine ⟨s, ?_, hs2⟩
        rw [show j - i = (j - (i + 1)) + 1 by omega]
        exact hs
theorem mset_none {k : Int} {x : Value} : ∀ {f : List (Int × Value)} {i : Nat}, mfind k f i = none → mset k x f = f ++ [(k, x)]
  | [], _, _ => rfl
  | (q, u) :: r, i, h => by
    rw [mfind] at h
    by_cases hk : k = q
    · rw [if_pos hk] at h; cases h
    · rw [if_neg hk] at h
      rw [mset, if_neg hk, mset_none h]; rfl
theorem mset_some {k : Int} {x v : Value} : ∀ {f : List (Int × Value)} {j : Nat}, mfind k f 0 = some (j, v) → mset k x f = f.set j (k, x) := by
  intro f j h
  have := mset_some' (x := x) (i := 0) h
  simpa using this
theorem mdel_none {k : Int} : ∀ {f : List (Int × Value)} {i : Nat}, mfind k f i = none → mdel k f = f
  | [], _, _ => rfl
  | (q, u) :: r, i, h => by
    rw [mfind] at h
    by_cases hk : k = q
    · rw [if_pos hk] at h; cases h
    · rw [if_neg hk] at h
      rw [mdel, if_neg hk, mdel_none h]
theorem mdel_some {k : Int} {v : Value} {f : List (Int × Value)} {j : Nat} (h : mfind k f 0 = some (j, v)) : mdel k f = f.eraseIdx j := by
  have := mdel_some' (i := 0) h
  simpa using this

section
variable {P : Program} {w : World} {T K E : TypeId} {b : Nat} {f : List (Int × Value)}

theorem run_checkKey_int (hK : P.underlying K = some (.int .i64)) (e : Bool) (k : Int) (W : World) : (Instr.checkKey e 10000 K (.int .i64 k)).run P W = .ok () W := by
  exact MapKept.run_checkKey (n := 9999) hK (by simp [MapKept.IsKey]) e
theorem run_findKey_ents (hK : P.underlying K = some (.int .i64)) {es : Array MapEntry} (h : es.toList.map (fun e => (e.key, e.val)) = ents f) (k : Int) (W : World) : (Instr.findKey K (.int .i64 k) es.toList).run P W = .ok (mfind k f 0) W := by
  simp [Instr.findKey, run_underlying hK, findNow_ents f es.toList 0 h]

theorem run_look (hT : P.underlying T = some (.map K E)) (hK : P.underlying K = some (.int .i64)) {z : Value} (hz : (zeroValue E).run P w = .ok z w) (h : MapAt w b f) (k : Int) :
    (Instr.lookup T (.map (some b)) (.int .i64 k) false).run P w = .ok ((mget k f).getD z) w := by
  obtain ⟨es, c, h1, h2⟩ := h
  have e1 := mfind_get k f 0
  cases hm : mfind k f 0 with
  | none =>
    rw [hm] at e1
    simp [Instr.lookup, run_underlying hT, MapKept.run_getObj_map h1, run_checkKey_int hK, run_findKey_ents hK h2, hm, hz, ← e1]
  | some p =>
    rw [hm] at e1
    simp [Instr.lookup, run_underlying hT, MapKept.run_getObj_map h1, run_checkKey_int hK, run_findKey_ents hK h2, hm, ← e1]
theorem run_look_ok (hT : P.underlying T = some (.map K E)) (hK : P.underlying K = some (.int .i64)) {z : Value} (hz : (zeroValue E).run P w = .ok z w) (h : MapAt w b f) (k : Int) :
    (Instr.lookup T (.map (some b)) (.int .i64 k) true).run P w = .ok (.tuple #[(mget k f).getD z, .bool (mget k f).isSome]) w := by
  obtain ⟨es, c, h1, h2⟩ := h
  have e1 := mfind_get k f 0
  cases hm : mfind k f 0 with
  | none =>
    rw [hm] at e1
    simp [Instr.lookup, run_underlying hT, MapKept.run_getObj_map h1, run_checkKey_int hK, run_findKey_ents hK h2, hm, hz, ← e1]
  | some p =>
    rw [hm] at e1
    simp [Instr.lookup, run_underlying hT, MapKept.run_getObj_map h1, run_checkKey_int hK, run_findKey_ents hK h2, hm, ← e1]

theorem run_upd {E' : TypeId} (hT : P.underlying T = some (.map K E')) (hK : P.underlying K = some (.int .i64)) (h : MapAt w b f) (k : Int) (x : Value) :
    ∃ w', (Instr.mapUpdate T (.map (some b)) (.int .i64 k) x).run P w = .ok () w' ∧ MapAt w' b (mset k x f) ∧ Keeps (· = b) w w' ∧ w'.heap.size = w.heap.size := by
  obtain ⟨es, c, h1, h2⟩ := h
  have hk : ∀ o, Keeps (· = b) w (setBlock w b o) := fun o => ⟨rfl, rfl, rfl, by simp [setBlock], fun i _ hi => heap_setBlock_other h1 _ hi⟩
  cases hm : mfind k f 0 with
  | none =>
    refine ⟨setBlock w b (.map (es.push ⟨.int .i64 k, x, c⟩) (c + 1)), ?_, ⟨_, _, heap_setBlock_same h1 _, ?_⟩, hk _, by simp [setBlock]⟩
    · simp [Instr.mapUpdate, run_underlying hT, MapKept.run_getObj_map h1, run_checkKey_int hK, run_findKey_ents hK h2, hm, MapKept.run_setObj_map _ h1, Result.andThen, setBlock]
    · rw [Array.toList_push, List.map_append, h2, mset_none hm]
      simp [ents]
  | some p =>
    obtain ⟨j, v⟩ := p
    obtain ⟨r, hj, hjs⟩ := mfind_at hm h2
    simp only [Nat.sub_zero] at hj
    have hja : es[j]? = some r := by simpa using hj
    have hkey : r.key = .int .i64 k := hjs
    refine ⟨setBlock w b (.map (es.modify j fun e => { e with key := .int .i64 k, val := x }) c), ?_, ⟨_, _, heap_setBlock_same h1 _, ?_⟩, hk _, by simp [setBlock]⟩
    · simp [Instr.mapUpdate, run_underlying hT, MapKept.run_getObj_map h1, run_checkKey_int hK, run_findKey_ents hK h2, hm, hja, hkey, Instr.keyThatStays, Instr.sameBits, MapKept.run_setObj_map _ h1, Result.andThen, setBlock]
    · rw [mset_some hm, Array.toList_modify, modify_eq_set _ _ _ _ hj, List.map_set, h2]
      simp [ents, List.map_set]
theorem run_del {E' : TypeId} (hT : P.underlying T = some (.map K E')) (hK : P.underlying K = some (.int .i64)) (h : MapAt w b f) (k : Int) (ty : TypeId) :
    ∃ w', (Builtin.delete_ #[T, K] ty #[.map (some b), .int .i64 k]).run P w = .ok (.tuple #[]) w' ∧ MapAt w' b (mdel k f) ∧ Keeps (· = b) w w' ∧ w'.heap.size = w.heap.size := by
  obtain ⟨es, c, h1, h2⟩ := h
  have hk : ∀ o, Keeps (· = b) w (setBlock w b o) := fun o => ⟨rfl, rfl, rfl, by simp [setBlock], fun i _ hi => heap_setBlock_other h1 _ hi⟩
  cases hm : mfind k f 0 with
  | none =>
    refine ⟨setBlock w b (.map es c), ?_, ⟨_, _, heap_setBlock_same h1 _, ?_⟩, hk _, by simp [setBlock]⟩
    · simp [Builtin.delete_, run_underlying hT, MapKept.run_getObj_map h1, run_checkKey_int hK, run_findKey_ents hK h2, hm, MapKept.run_setObj_map _ h1, Result.andThen, setBlock]
    · rw [mdel_none hm, h2]
  | some p =>
    obtain ⟨j, v⟩ := p
    obtain ⟨r, hj, hjs⟩ := mfind_at hm h2
    simp only [Nat.sub_zero] at hj
    have hlt : j < es.size := by simpa using (List.getElem?_eq_some_iff.1 hj).1
    refine ⟨setBlock w b (.map (es.eraseIdxIfInBounds j) c), ?_, ⟨_, _, heap_setBlock_same h1 _, ?_⟩, hk _, by simp [setBlock]⟩
    · simp [Builtin.delete_, run_underlying hT, MapKept.run_getObj_map h1, run_checkKey_int hK, run_findKey_ents hK h2, hm, MapKept.run_setObj_map _ h1, Result.andThen, setBlock]
    · have e : (es.eraseIdxIfInBounds j).toList = es.toList.eraseIdx j := by
        unfold Array.eraseIdxIfInBounds
        rw [dif_pos hlt]; simp
      rw [e, map_eraseIdx, h2, mdel_some hm, ents, ents, map_eraseIdx]
theorem run_mlen {E' : TypeId} (hT : P.underlying T = some (.map K E')) (h : MapAt w b f) (ty : TypeId) : (Builtin.len_ #[T] ty #[.map (some b)]).run P w = .ok (.int .i64 (f.length : Nat)) w := by
  obtain ⟨es, c, h1, h2⟩ := h
  have e : es.size = f.length := by
    have := congrArg List.length h2
    simpa [ents] using this
  simp [Builtin.len_, run_underlying hT, MapKept.run_getObj_map h1, goInt, Result.andThen, e]
end

/-! ### at the operation, for the walk -/
section
variable {P : Program} (w : World) {ops : Array Oper} {rest : List Oper} {o : Oper} {a : Act} {Q : Exit → Act → World → Prop}
theorem wpList_look (hg : o.guard = none) (m x : Operand) (t : TypeId) (hop : o.op = Op.lookup t m x false) (k e : TypeId) (hT : P.underlying t = some (.map k e)) (hK : P.underlying k = some (.int .i64)) {z : Value} (hz : ∀ W, (zeroValue e).run P W = .ok z W)
    (b : Nat) (f : List (Int × Value)) (hm : a.eval m = .map (some b)) (h : MapAt w b f) (j : Int) (hx : a.eval x = .int .i64 j)
    (hn : wpList P ops Q rest (a.put o.dst ((mget j f).getD z)) w) : wpList P ops Q (o :: rest) a w := by
  refine wpList_plain hg fun K' hK' => ?_
  unfold Oper.wp
  simp [execOp, hop, hm, hx, run_look hT hK (hz w) h j, Result.andThen]
  exact hK' _ _ hn
theorem wpList_look_ok (hg : o.guard = none) (m x : Operand) (t : TypeId) (hop : o.op = Op.lookup t m x true) (k e : TypeId) (hT : P.underlying t = some (.map k e)) (hK : P.underlying k = some (.int .i64)) {z : Value} (hz : ∀ W, (zeroValue e).run P W = .ok z W)
    (b : Nat) (f : List (Int × Value)) (hm : a.eval m = .map (some b)) (h : MapAt w b f) (j : Int) (hx : a.eval x = .int .i64 j)
    (hn : wpList P ops Q rest (a.put o.dst (.tuple #[(mget j f).getD z, .bool (mget j f).isSome])) w) : wpList P ops Q (o :: rest) a w := by
  refine wpList_plain hg fun K' hK' => ?_
  unfold Oper.wp
  simp [execOp, hop, hm, hx, run_look_ok hT hK (hz w) h j, Result.andThen]
  exact hK' _ _ hn
theorem wpList_look_in (hg : o.guard = none) (m x : Operand) (t : TypeId) (hop : o.op = Op.lookup t m x true) (k e : TypeId) (hT : P.underlying t = some (.map k e)) (hK : P.underlying k = some (.int .i64)) {z : Value} (hz : ∀ W, (zeroValue e).run P W = .ok z W)
    (b : Nat) (f : List (Int × Value)) (hm : a.eval m = .map (some b)) (h : MapAt w b f) (j : Int) (hx : a.eval x = .int .i64 j) (v : Value) (hv : mget j f = some v)
    (hn : wpList P ops Q rest (a.put o.dst (.tuple #[v, .bool true])) w) : wpList P ops Q (o :: rest) a w :=
  wpList_look_ok w hg m x t hop k e hT hK hz b f hm h j hx (by rw [hv]; exact hn)
theorem wpList_look_out (hg : o.guard = none) (m x : Operand) (t : TypeId) (hop : o.op = Op.lookup t m x true) (k e : TypeId) (hT : P.underlying t = some (.map k e)) (hK : P.underlying k = some (.int .i64)) {z : Value} (hz : ∀ W, (zeroValue e).run P W = .ok z W)
    (b : Nat) (f : List (Int × Value)) (hm : a.eval m = .map (some b)) (h : MapAt w b f) (j : Int) (hx : a.eval x = .int .i64 j) (hv : mget j f = none)
    (hn : wpList P ops Q rest (a.put o.dst (.tuple #[z, .bool false])) w) : wpList P ops Q (o :: rest) a w :=
  wpList_look_ok w hg m x t hop k e hT hK hz b f hm h j hx (by rw [hv]; exact hn)
theorem wpList_upd (hg : o.guard = none) (m x v : Operand) (t : TypeId) (hop : o.op = Op.mapUpdate t m x v) (k e : TypeId) (hT : P.underlying t = some (.map k e)) (hK : P.underlying k = some (.int .i64))
    (b : Nat) (f : List (Int × Value)) (hm : a.eval m = .map (some b)) (h : MapAt w b f) (j : Int) (hx : a.eval x = .int .i64 j) (y : Value) (hv : a.eval v = y)
    (hn : ∀ w', MapAt w' b (mset j y f) → Keeps (· = b) w w' → w'.heap.size = w.heap.size → wpList P ops Q rest (a.put o.dst undef) w') : wpList P ops Q (o :: rest) a w := by
  refine wpList_plain hg fun K' hK' => ?_
  obtain ⟨w', hr, h1, h2, h3⟩ := run_upd hT hK h j y
  unfold Oper.wp
  simp [execOp, hop, hm, hx, hv, hr, Result.andThen]
  exact hK' _ _ (hn w' h1 h2 h3)
theorem step_upd {E : Prop} {K : Act → World → Prop} (hg : o.guard = none) (m x v : Operand) (t : TypeId) (hop : o.op = Op.mapUpdate t m x v) (k e : TypeId) (hT : P.underlying t = some (.map k e)) (hK : P.underlying k = some (.int .i64))
    (b : Nat) (f : List (Int × Value)) (hm : a.eval m = .map (some b)) (h : MapAt w b f) (j : Int) (hx : a.eval x = .int .i64 j) (y : Value) (hv : a.eval v = y)
    (hn : ∀ w', MapAt w' b (mset j y f) → Keeps (· = b) w w' → w'.heap.size = w.heap.size → K (a.put o.dst undef) w') : if Region.wanted o (yielded ops a.tmps) = true then Oper.wp P o a w K Q else E := by
  have hw : Region.wanted o (yielded ops a.tmps) = true := by simp [Region.wanted, hg]
  rw [if_pos hw]
  obtain ⟨w', hr, h1, h2, h3⟩ := run_upd hT hK h j y
  unfold Oper.wp
  simp [execOp, hop, hm, hx, hv, hr, Result.andThen]
  exact hn w' h1 h2 h3
theorem wpList_del (hg : o.guard = none) (m x : Operand) (t k : TypeId) (hop : o.op = Op.call { callee := Callee.builtin Builtin.delete, args := #[m, x], argTypes := #[t, k] }) (e : TypeId) (hT : P.underlying t = some (.map k e)) (hK : P.underlying k = some (.int .i64))
    (b : Nat) (f : List (Int × Value)) (hm : a.eval m = .map (some b)) (h : MapAt w b f) (j : Int) (hx : a.eval x = .int .i64 j)
    (hn : ∀ w', MapAt w' b (mdel j f) → Keeps (· = b) w w' → w'.heap.size = w.heap.size → wpList P ops Q rest (a.put o.dst (.tuple #[])) w') : wpList P ops Q (o :: rest) a w := by
  refine wpList_plain hg fun K' hK' => ?_
  obtain ⟨w', hr, h1, h2, h3⟩ := run_del hT hK h j o.type
  unfold Oper.wp
  simp [execOp, hop, resolve, invoke, builtin, hm, hx, hr, Result.andThen]
  exact hK' _ _ (hn w' h1 h2 h3)
theorem wpList_mlen (hg : o.guard = none) (m : Operand) (t : TypeId) (hop : o.op = Op.call { callee := Callee.builtin Builtin.len, args := #[m], argTypes := #[t] }) (k e : TypeId) (hT : P.underlying t = some (.map k e))
    (b : Nat) (f : List (Int × Value)) (hm : a.eval m = .map (some b)) (h : MapAt w b f)
    (hn : wpList P ops Q rest (a.put o.dst (.int .i64 (f.length : Nat))) w) : wpList P ops Q (o :: rest) a w := by
  refine wpList_plain hg fun K' hK' => ?_
  unfold Oper.wp
  simp [execOp, hop, resolve, invoke, builtin, hm, run_mlen hT h o.type, Result.andThen]
  exact hK' _ _ hn
end

/-! ### plain laws of get, set, del -/
theorem mget_set (j k : Int) (x : Value) : ∀ f, mget j (mset k x f) = if j = k then some x else mget j f
  | [] => by simp [mset, mget]
  | (i, v) :: r => by
    have ih := mget_set j k x r
    rw [mset]
    by_cases h : k = i
    · subst h
      rw [if_pos rfl, mget, mget]
      by_cases h2 : j = k
      · rw [if_pos h2, if_pos h2]
      · rw [if_neg h2, if_neg h2]; simp [h2]
    · rw [if_neg h, mget, mget, ih]
      by_cases h2 : j = i
      · rw [if_pos h2, if_pos h2, if_neg (by omega)]
      · rw [if_neg h2, if_neg h2]
def mkeys (f : List (Int × Value)) : List Int := f.map (·.1)
theorem mget_none {k : Int} : ∀ {f : List (Int × Value)}, mget k f = none ↔ k ∉ mkeys f
  | [] => by simp [mget, mkeys]
  | (i, v) :: r => by
    have ih := @mget_none k r
    rw [mget]
    by_cases h : k = i
    · simp [h, mkeys]
    · rw [if_neg h, ih]; simp [mkeys, h]
theorem mkeys_set_in {k : Int} {x : Value} : ∀ {f : List (Int × Value)}, k ∈ mkeys f → mkeys (mset k x f) = mkeys f
  | [], h => by simp [mkeys] at h
  | (i, v) :: r, h => by
    rw [mset]
    by_cases e : k = i
    · rw [if_pos e]; rfl
    · rw [if_neg e]
      have := @mkeys_set_in k x r (by simpa [mkeys, e] using h)
      unfold mkeys at this ⊢
      simp [this]
theorem mset_new {k : Int} {x : Value} : ∀ {f : List (Int × Value)}, k ∉ mkeys f → mset k x f = f ++ [(k, x)]
  | [], _ => rfl
  | (i, v) :: r, h => by
    rw [mset]
    by_cases e : k = i
    · simp [mkeys, e] at h
    · rw [if_neg e, @mset_new k x r (by simpa [mkeys, e] using h)]; rfl
theorem mget_del_other {j k : Int} (h : j ≠ k) : ∀ f, mget j (mdel k f) = mget j f
  | [] => rfl
  | (i, v) :: r => by
    have ih := mget_del_other h r
    rw [mdel]
    by_cases e : k = i
    · rw [if_pos e, mget, if_neg (by omega)]
    · rw [if_neg e, mget, mget, ih]
theorem mdel_absent {k : Int} : ∀ {f : List (Int × Value)}, k ∉ mkeys f → mdel k f = f
  | [], _ => rfl
  | (i, v) :: r, h => by
    rw [mdel]
    by_cases e : k = i
    · simp [mkeys, e] at h
    · rw [if_neg e, @mdel_absent k r (by simpa [mkeys, e] using h)]
theorem mkeys_del {k : Int} : ∀ (f : List (Int × Value)), mkeys (mdel k f) = (mkeys f).erase k
  | [] => rfl
  | (i, v) :: r => by
    have ih := mkeys_del (k := k) r
    rw [mdel]
    by_cases e : k = i
    · rw [if_pos e, e]; simp [mkeys]
    · rw [if_neg e]
      unfold mkeys at ih ⊢
      rw [List.map_cons, List.map_cons, ih, List.erase_cons_tail (by simpa using fun h => e h.symm)]
theorem mkeys_length (f : List (Int × Value)) : (mkeys f).length = f.length := by simp [mkeys]
end Go.Proofs.Ytglpacdenfoicaa
