/- arguments opened step by step: what a value of a type reads as, within the reach -/
import Derived.Test.YtglpacdenfoicaaOpen
namespace Go.Proofs.Ytglpacdenfoicaa
open Go.ChangeShapes Go.WideShapes Go.ChangeAt Go.RowKit Go.Deep

/-- a list of what is picked place by place -/
theorem pick_list {α : Type} {n : Nat} {p : Nat → α → Prop} (h : ∀ i, i < n → ∃ x, p i x) : ∃ l : List α, l.length = n ∧ ∀ i (hi : i < l.length), p i l[i] := by
  induction n with
  | zero => exact ⟨[], rfl, fun i hi => by simp at hi⟩
  | succ n ih =>
    obtain ⟨l, hl, hp⟩ := ih (fun i hi => h i (by omega))
    obtain ⟨x, hx⟩ := h n (by omega)
    refine ⟨l ++ [x], by simp [hl], fun i hi => ?_⟩
    by_cases hin : i < l.length
    · rw [List.getElem_append_left hin]; exact hp i hin
    · have : i = l.length := by simp at hi; omega
      subst this
      rw [List.getElem_append_right (Nat.le_refl _)]
      simp only [Nat.sub_self, List.getElem_cons_zero]
      rw [hl]; exact hx

/-- The slice at a reads as the numbers xs of kind k. -/
def NumsAt (k : IntKind) (w : World) (a : Option Addr) (xs : List Int) : Prop := ∀ j, j < xs.length → ∃ b off, a = some ⟨b, off, none⟩ ∧ w.cell? ⟨b, off + j, none⟩ = some (.int k (gi xs j))
theorem NumsAt.keeps {k : IntKind} {S : Nat → Prop} {w w' : World} {a : Option Addr} {d : List Int} (h : NumsAt k w a d) (hk : Keeps S w w') (hn : ∀ b, blk a = some b → ¬ S b) : NumsAt k w' a d :=
  fun j hj => let ⟨b, off, e, hc⟩ := h j hj; ⟨b, off, e, hk.cell hc (hn b (by rw [e]; rfl))⟩
/-- The slice at a reads as the rows of numbers. -/
def RowsAt (k : IntKind) (w : World) (a : Option Addr) (rows : List (List Int)) : Prop :=
  ∀ i (_ : i < rows.length), ∃ b off a' cap', a = some ⟨b, off, none⟩ ∧ w.cell? ⟨b, off + i, none⟩ = some (.slice a' rows[i].length cap') ∧ NumsAt k w a' rows[i]

section
variable {H : Type} {enc : TypeId × Value → H} {P : Program} {w : World}
/-- The cells cs read as a datum of type t, within the reach. -/
def Trd (enc : TypeId × Value → H) (P : Program) (w : World) (t : TypeId) (cs : List Value) : Prop :=
  ∃ n x, DataW.trod enc P w 0 (fun _ => true) true n t cs = some x ∧ (x.1.weights P t).all (· ≤ reachBytes) = true

theorem Trd.of {t : TypeId} {ts : List TypeId} {ds : List (DataW H)} {v : Value} {d : DataW H} {ps : List MemPlace} (h : DataW.Trod enc P w 0 (fun _ => true) true t v d ps) (hsz : (DataW.weightsEach P ts ds).all (· ≤ reachBytes) = true) {j : Nat} (ht : ts[j]? = some t) (hd : ds[j]? = some d) : Trd enc P w t v.cells.toList := by
  obtain ⟨fuel, hf⟩ := h
  exact ⟨fuel, _, hf, List.all_eq_true.2 fun n hn => List.all_eq_true.1 hsz n (DataW.weights_mem_each ht hd n hn)⟩

theorem mem_weightsAll {e : TypeId} {n : Nat} : ∀ {l : List (DataW H)} {d : DataW H}, d ∈ l → n ∈ d.weights P e → n ∈ DataW.weightsAll P e l
  | [], _, h, _ => by cases h
  | x :: r, d, h, hn => by
    rw [DataW.weightsAll]
    rcases List.mem_cons.1 h with h | h
    · subst h; exact List.mem_append_left _ hn
    · exact List.mem_append_right _ (mem_weightsAll h hn)

theorem Trd.slice {t e : TypeId} {a : Option Addr} {len cap : Nat} (C : Nat) (ht : P.underlying t = some (.slice e)) (hc : P.cellsOf e = C) (hC : 0 < C) (h : Trd enc P w t [.slice a len cap]) :
    (a = none → cap = 0 ∧ len = 0) ∧ len ≤ cap ∧ cap ≤ maxLen ∧ cap * P.bytesOf e ≤ 140737488351232 ∧
      ∀ i, i < len → ∃ b off, a = some ⟨b, off, none⟩ ∧ ∃ cs : List Value, cs.length = C ∧ (∀ j, j < C → w.cell? ⟨b, off + i * C + j, none⟩ = cs[j]?) ∧ Trd enc P w e cs := by
  obtain ⟨fuel, x, hf, hw⟩ := h
  rcases open_slice ht hf with ⟨hcs, hx⟩ | ⟨x', l, c, m, n, D, Pl, hcs, _, hl, hm, hmm, hx, hi⟩
  · simp at hcs
    obtain ⟨rfl, rfl, rfl⟩ := hcs
    exact ⟨fun _ => ⟨rfl, rfl⟩, Nat.le_refl _, Nat.zero_le _, by simp, (fun i hi => by omega)⟩
  · simp at hcs
    obtain ⟨rfl, rfl, rfl⟩ := hcs
    simp only [if_true] at hmm
    subst hx
    simp only [DataW.weights, ht, List.all_cons, List.all_append, Bool.and_eq_true, decide_eq_true_eq] at hw
    obtain ⟨hw1, hw2, _⟩ := hw
    refine ⟨(fun h => by cases h), hl, hm, ?_, fun i hi2 => ?_⟩
    · have e1 : ((List.range len).map D).length + ((List.range (m - len)).map fun j => D (len + j)).length = cap := by simp; omega
      rw [e1] at hw1
      exact hw1
    have h0 : x' = ⟨x'.block, x'.off, none⟩ := by
      obtain ⟨cs0, hc0, _⟩ := hi 0 (by omega)
      obtain ⟨_, hl0, hat⟩ := World.cells?_some hc0
      have := hat 0 (by rw [hc]; exact hC)
      rw [Nat.zero_mul] at this
      have e : (x'.add 0).add 0 = x'.add 0 := rfl
      rw [e] at this
      have hz : cs0[0]? = some (cs0[0]'(by rw [hl0, hc]; exact hC)) := List.getElem?_eq_getElem _
      rw [hz] at this
      exact addr_plain this
    obtain ⟨cs, hcs, ht2⟩ := hi i (by omega)
    obtain ⟨_, hl2, hat⟩ := World.cells?_some hcs
    refine ⟨x'.block, x'.off, by rw [← h0], cs, by rw [hl2, hc], fun j hj => ?_, n, _, ht2, ?_⟩
    · rw [← hat j (by rw [hc]; exact hj), hc]
      conv => rhs; rw [h0]
      rw [Addr.add_lit, Addr.add_lit]
    · exact List.all_eq_true.2 fun q hq => List.all_eq_true.1 hw2 q (mem_weightsAll (List.mem_map.2 ⟨i, by simpa using hi2, rfl⟩) hq)
theorem Trd.isSlice {t e : TypeId} {cs : List Value} (ht : P.underlying t = some (.slice e)) (h : Trd enc P w t cs) : ∃ a len cap, cs = [.slice a len cap] := by
  obtain ⟨fuel, x, hf, _⟩ := h
  rcases open_slice ht hf with ⟨hcs, _⟩ | ⟨x', l, c, m, n, D, Pl, hcs, _⟩
  · exact ⟨_, _, _, hcs⟩
  · exact ⟨_, _, _, hcs⟩
theorem Trd.int {t : TypeId} {k : IntKind} {cs : List Value} (ht : P.underlying t = some (.int k)) (h : Trd enc P w t cs) : ∃ x, cs = [.int k x] ∧ (Lit.int k x).wf = true := by
  obtain ⟨n, x, hf, _⟩ := h
  obtain ⟨y, h1, _, h2⟩ := DataW.trod_int ht hf
  exact ⟨y, h1, h2⟩
theorem Trd.bool {t : TypeId} {cs : List Value} (ht : P.underlying t = some .bool) (h : Trd enc P w t cs) : ∃ x, cs = [.bool x] := by
  obtain ⟨n, x, hf, _⟩ := h
  obtain ⟨y, h1, _⟩ := DataW.trod_bool ht hf
  exact ⟨y, h1⟩
theorem Trd.field {t : TypeId} {fs : Array Field} {cs : List Value} (ht : P.underlying t = some (.struct fs)) (h : Trd enc P w t cs) {i : Nat} {f : Field} (hf : fs[i]? = some f) : Trd enc P w f.type ((cs.drop f.offset).take (P.cellsOf f.type)) := by
  obtain ⟨n, x, hx, hw⟩ := h
  obtain ⟨xs, n', _, rfl, hl, hlen, hfs⟩ := DataW.trod_struct ht hx
  have hi : i < fs.size := (Array.getElem?_eq_some_iff.1 hf).1
  have h1 := hfs i f hf
  rw [List.getElem?_eq_getElem (by omega)] at h1
  refine ⟨n', _, h1, List.all_eq_true.2 fun q hq => ?_⟩
  simp only [DataW.weights, ht] at hw
  refine List.all_eq_true.1 hw q (DataW.weights_mem_each (j := i) (t := f.type) ?_ ?_ q hq)
  · simp [hf]
  · simp [List.getElem?_eq_getElem (show i < xs.length by omega)]
theorem Trd.fld {t : TypeId} {fs : Array Field} {cs : List Value} (ht : P.underlying t = some (.struct fs)) (h : Trd enc P w t cs) (i : Nat) (ft : TypeId) (off C : Nat) (hf : (fs[i]?).map (fun f => (f.type, f.offset)) = some (ft, off)) (hc : P.cellsOf ft = C) : Trd enc P w ft ((cs.drop off).take C) := by
  cases hx : fs[i]? with
  | none => rw [hx] at hf; cases hf
  | some f =>
    rw [hx] at hf
    simp only [Option.map_some, Option.some.injEq, Prod.mk.injEq] at hf
    obtain ⟨rfl, rfl⟩ := hf
    subst hc
    exact h.field ht hx
theorem Trd.length {t : TypeId} {fs : Array Field} {cs : List Value} (ht : P.underlying t = some (.struct fs)) (h : Trd enc P w t cs) : cs.length = P.cellsOf t := by
  obtain ⟨n, x, hx, hw⟩ := h
  obtain ⟨xs, n', _, rfl, hl, _⟩ := DataW.trod_struct ht hx
  exact hl

/-- a slice of numbers of one kind -/
theorem Trd.nums {t e : TypeId} {k : IntKind} {a : Option Addr} {len cap : Nat} (ht : P.underlying t = some (.slice e)) (he : P.underlying e = some (.int k)) (hc : P.cellsOf e = 1) (h : Trd enc P w t [.slice a len cap]) :
    ∃ xs : List Int, xs.length = len ∧ NumsAt k w a xs ∧ (a = none → cap = 0 ∧ len = 0) ∧ len ≤ cap ∧ cap ≤ maxLen ∧ cap * P.bytesOf e ≤ 140737488351232 ∧ ∀ j, j < len → (Lit.int k (gi xs j)).wf = true := by
  obtain ⟨h1, h2, h3, h4, h5⟩ := h.slice 1 ht hc (by omega)
  obtain ⟨xs, hl, hp⟩ := pick_list (n := len) (p := fun i x => ∃ b off, a = some ⟨b, off, none⟩ ∧ w.cell? ⟨b, off + i, none⟩ = some (.int k x) ∧ (Lit.int k x).wf = true) (fun i hi => by
    obtain ⟨b, off, ha, cs, hcl, hcell, hT⟩ := h5 i hi
    obtain ⟨x, rfl, hwf⟩ := hT.int he
    refine ⟨x, b, off, ha, ?_, hwf⟩
    have := hcell 0 (by omega)
    simpa using this)
  refine ⟨xs, hl, fun j hj => ?_, h1, h2, h3, h4, fun j hj => ?_⟩
  · obtain ⟨b, off, ha, hcell, _⟩ := hp j hj
    exact ⟨b, off, ha, by rw [gi_eq hj]; exact hcell⟩
  · obtain ⟨b, off, ha, _, hwf⟩ := hp j (by omega)
    rw [gi_eq (by omega)]; exact hwf

/-- a slice of slices of numbers -/
theorem Trd.rows {t e q : TypeId} {k : IntKind} {a : Option Addr} {len cap : Nat} (ht : P.underlying t = some (.slice e)) (he : P.underlying e = some (.slice q)) (hq : P.underlying q = some (.int k)) (hc : P.cellsOf e = 1) (hcq : P.cellsOf q = 1) (h : Trd enc P w t [.slice a len cap]) :
    ∃ rows : List (List Int), rows.length = len ∧ RowsAt k w a rows ∧ (a = none → cap = 0 ∧ len = 0) ∧ len ≤ cap ∧ cap ≤ maxLen ∧ cap * P.bytesOf e ≤ 140737488351232 ∧ ∀ i (_ : i < rows.length), rows[i].length * P.bytesOf q ≤ 140737488351232 ∧ rows[i].length ≤ maxLen ∧ ∀ j, j < rows[i].length → (Lit.int k (gi rows[i] j)).wf = true := by
  obtain ⟨h1, h2, h3, h4, h5⟩ := h.slice 1 ht hc (by omega)
  obtain ⟨rows, hl, hp⟩ := pick_list (n := len) (p := fun i (xs : List Int) => (∃ b off a' cap', a = some ⟨b, off, none⟩ ∧ w.cell? ⟨b, off + i, none⟩ = some (.slice a' xs.length cap') ∧ NumsAt k w a' xs) ∧ xs.length * P.bytesOf q ≤ 140737488351232 ∧ xs.length ≤ maxLen ∧ ∀ j, j < xs.length → (Lit.int k (gi xs j)).wf = true) (fun i hi => by
    obtain ⟨b, off, ha, cs, hcl, hcell, hT⟩ := h5 i hi
    obtain ⟨a', len', cap', rfl⟩ := hT.isSlice he
    obtain ⟨xs, hxl, hn, _, hle, hcm, hby, hwf⟩ := hT.nums he hq hcq
    subst hxl
    refine ⟨xs, ⟨b, off, a', cap', ha, ?_, hn⟩, Nat.le_trans (Nat.mul_le_mul_right _ hle) hby, by omega, hwf⟩
    have := hcell 0 (by omega)
    simpa using this)
  exact ⟨rows, hl, fun i hi => (hp i hi).1, h1, h2, h3, h4, fun i hi => (hp i hi).2⟩
end
end Go.Proofs.Ytglpacdenfoicaa
