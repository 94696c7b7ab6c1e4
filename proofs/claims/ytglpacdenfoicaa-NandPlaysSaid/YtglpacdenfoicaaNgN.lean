/- the document's New: steps of its loops -/
import Derived.Test.YtglpacdenfoicaaNgH
namespace Go.Proofs.Ytglpacdenfoicaa
section
open Go.RowKit

theorem info33 : (Try.prog.info? 33).map (fun i => (i.zero, i.size, i.bytes)) = some (some (.agg #[.int .i64 0, .int .i64 0, .int .i64 0, .int .i64 0, .int .i64 0, .int .i64 0, .int .i64 0, .slice none 0 0]), 8, 80) := by kernel_rfl
theorem info107 : (Try.prog.info? 107).map (fun i => (i.zero, i.size, i.bytes)) = some (some (.agg #[.slice none 0 0, .int .i64 0, .int .i64 0]), 3, 40) := by kernel_rfl
theorem info3n : (Try.prog.info? 3).map (fun i => (i.zero, i.size, i.bytes)) = some (some (.int .i64 0), 1, 8) := by kernel_rfl
def nrCells (S : Sh) (ba : Option Addr) (k bc : Nat) (fa : Option Addr) (fn fc : Nat) (la : Option Addr) (ln lc : Nat) : Array Value :=
  #[.int .i64 (S.dies : Nat), .int .i64 (S.blocks : Nat), .int .i64 (S.pages : Nat), .int .i64 (S.bytes : Nat), .slice ba k bc, .slice fa fn fc, .slice la ln lc, .bool false, .int .i64 0, .int .i64 0, .int .i64 0, .int .i64 0, .int .i64 0, .int .i64 0, .int .i64 0]
def encB (S : Sh) (pb pc : Nat → Nat) (i : Nat) : List Value := [.slice (some ⟨pb i, 0, none⟩) S.pages (pc i), .int .i64 0, .int .i64 0]
/-- all but the array's own cells -/
structure RwC (w : World) (n0 : Nat) (S : Sh) (k : Nat) (ba : Option Addr) (bc : Nat) (pb pc : Nat → Nat) (fa : Option Addr) (fc : Nat) (L : List Fx) (la : Option Addr) (lc : Nat) (T : List Int) : Prop where
  row : RecRow (encB S pb pc) 3 w 107 ba bc (List.range k)
  pgs : ∀ i, i < k → RpAt w (n0 ≤ ·) S.pages S.bytes (pb i) (fun _ => none)
  fts : RecRow encF 8 w 33 fa fc L
  left : NumRow .i64 w 3 la lc T
  bits : ∀ x ∈ L, NumsAt .i64 w x.a x.f.bits ∧ (0 < x.f.bits.length → ∀ g, Ytglpacdenfoicaa.blk x.a = some g → g < n0)
  ownB : ∀ g, Ytglpacdenfoicaa.blk ba = some g → n0 ≤ g
  ownP : ∀ i, i < k → n0 ≤ pb i
  ownF : ∀ g, Ytglpacdenfoicaa.blk fa = some g → n0 ≤ g
  ownL : ∀ g, Ytglpacdenfoicaa.blk la = some g → n0 ≤ g
  injP : ∀ i j, i < k → j < k → pb i = pb j → i = j
variable {w w' : World} {n0 rb bc fc lc k : Nat} {S : Sh} {ba fa la : Option Addr} {pb pc : Nat → Nat} {L : List Fx} {D : List Int} {O T : Nat → Prop}
theorem RpAt.keepsT {pages bytes g : Nat} {pg : Nat → Option (List Int)} {E : TypeId} (h : RpAt w O pages bytes g pg) (hk : Keeps T w w') (hT : ∀ j, T j → ∃ c f, w.heap[j]? = some (.cells c E f)) (h1 : E ≠ 22) (h2 : E ≠ 5) : RpAt w' O pages bytes g pg := by
  obtain ⟨ps, p1, p2, p3⟩ := h
  refine ⟨ps, hk.heap p1 (fun e => by obtain ⟨c, f, hc⟩ := hT _ e; exact cells_ne p1 hc (fun e => h1 e.symm) rfl), p2, fun p hp => ?_⟩
  obtain ⟨x, c, a, b, e, o⟩ := p3 p hp
  exact ⟨x, c, a, b.keeps hk (fun q hq e => by obtain ⟨c', f, hc⟩ := hT _ e; exact b.ne' hq hc (fun e => h2 e.symm) rfl), e, o⟩
theorem RowAt.keepsT {E E' : TypeId} {size n cap : Nat} {a : Option Addr} {xs : List Value} (h : RowAt w E' size a n cap xs) (hk : Keeps T w w') (hT : ∀ j, T j → ∃ c f, w.heap[j]? = some (.cells c E f)) (h1 : E ≠ E') : RowAt w' E' size a n cap xs :=
  h.keeps hk (fun g hg e => by obtain ⟨c, f, hc⟩ := hT _ e; exact RowAt.ne h hg hc (fun e => h1 e.symm) rfl)
theorem bits_keeps (hb : ∀ x ∈ L, NumsAt .i64 w x.a x.f.bits ∧ (0 < x.f.bits.length → ∀ g, Ytglpacdenfoicaa.blk x.a = some g → g < n0)) (hk : Keeps T w w') (hT : ∀ j, T j → n0 ≤ j) : ∀ x ∈ L, NumsAt .i64 w' x.a x.f.bits ∧ (0 < x.f.bits.length → ∀ g, Ytglpacdenfoicaa.blk x.a = some g → g < n0) :=
  fun x hx => ⟨(hb x hx).1.keeps0 hk (fun h0 g hg e => by have := (hb x hx).2 h0 g hg; have := hT g e; omega), (hb x hx).2⟩
theorem RwC.nil (h : RwC w n0 S k ba bc pb pc fa fc L la lc D) (hk : Keeps Nil w w') : RwC w' n0 S k ba bc pb pc fa fc L la lc D :=
  ⟨h.row.keeps hk (fun _ _ h => h), fun i hi => (h.pgs i hi).keeps hk (fun _ _ h => h) (fun h => h), h.fts.keeps hk (fun _ _ h => h), h.left.keeps hk (fun _ _ h => h), bits_keeps h.bits hk (fun _ h => h.elim), h.ownB, h.ownP, h.ownF, h.ownL, h.injP⟩
theorem RwC.begin (w : World) (n0 : Nat) (S : Sh) : RwC w n0 S 0 none 0 (fun _ => 0) (fun _ => 0) none 0 [] none 0 [] :=
  ⟨RecRow.nil _ _, fun _ h => absurd h (Nat.not_lt_zero _), RecRow.nil _ _, RowAt.nil _ _ _, fun _ h => absurd h List.not_mem_nil, fun _ h => by simp [Ytglpacdenfoicaa.blk] at h, fun _ h => absurd h (Nat.not_lt_zero _), fun _ h => by simp [Ytglpacdenfoicaa.blk] at h, fun _ h => by simp [Ytglpacdenfoicaa.blk] at h, fun _ _ h => absurd h (Nat.not_lt_zero _)⟩
/-- blocks of another type are written -/
theorem RwC.keep {E : TypeId} (h : RwC w n0 S k ba bc pb pc fa fc L la lc D) (hk : Keeps T w w') (hT : ∀ j, T j → ∃ c f, w.heap[j]? = some (.cells c E f)) (hn : ∀ j, T j → n0 ≤ j) (h1 : E ≠ 107) (h2 : E ≠ 22) (h3 : E ≠ 5) (h4 : E ≠ 33) (h5 : E ≠ 3) : RwC w' n0 S k ba bc pb pc fa fc L la lc D :=
  ⟨RowAt.keepsT h.row hk hT h1, fun i hi => (h.pgs i hi).keepsT hk hT h2 h3, RowAt.keepsT h.fts hk hT h4, RowAt.keepsT h.left hk hT h5, bits_keeps h.bits hk hn, h.ownB, h.ownP, h.ownF, h.ownL, h.injP⟩
theorem RwC.cell {E : TypeId} {size n cap : Nat} {a : Option Addr} {xs : List Value} (h : RowAt w E size a n cap xs) : ∀ j, blk a = some j → ∃ c f, w.heap[j]? = some (.cells c E f) := fun j hj => by
  obtain ⟨c, hc⟩ := RowAt.heap h hj
  exact ⟨c, _, hc⟩
theorem RwC.setF (h : RwC w n0 S k ba bc pb pc fa fc L la lc D) {x : Fx} {fa' : Option Addr} {fc' : Nat} (hk : Keeps (fun j => Ytglpacdenfoicaa.blk fa = some j) w w') (hr : RecRow encF 8 w' 33 fa' fc' (L ++ [x])) (hb : ∀ g, Ytglpacdenfoicaa.blk fa' = some g → n0 ≤ g)
    (hx : NumsAt .i64 w x.a x.f.bits) (hxo : 0 < x.f.bits.length → ∀ g, Ytglpacdenfoicaa.blk x.a = some g → g < n0) : RwC w' n0 S k ba bc pb pc fa' fc' (L ++ [x]) la lc D := by
  have hT := RwC.cell h.fts
  have hbits : ∀ y ∈ L ++ [x], NumsAt .i64 w y.a y.f.bits ∧ (0 < y.f.bits.length → ∀ g, Ytglpacdenfoicaa.blk y.a = some g → g < n0) := by
    intro y hy
    rcases List.mem_append.1 hy with hy | hy
    · exact h.bits y hy
    · rw [List.mem_singleton] at hy; subst hy; exact ⟨hx, hxo⟩
  exact ⟨RowAt.keepsT h.row hk hT (by decide), fun i hi => (h.pgs i hi).keepsT hk hT (by decide) (by decide), hr, RowAt.keepsT h.left hk hT (by decide), bits_keeps hbits hk h.ownF, h.ownB, h.ownP, hb, h.ownL, h.injP⟩
theorem RwC.setL (h : RwC w n0 S k ba bc pb pc fa fc L la lc D) {D' : List Int} {la' : Option Addr} {lc' : Nat} (hk : Keeps (fun j => Ytglpacdenfoicaa.blk la = some j) w w') (hr : NumRow .i64 w' 3 la' lc' D') (hb : ∀ g, Ytglpacdenfoicaa.blk la' = some g → n0 ≤ g) :
    RwC w' n0 S k ba bc pb pc fa fc L la' lc' D' := by
  have hT := RwC.cell h.left
  exact ⟨RowAt.keepsT h.row hk hT (by decide), fun i hi => (h.pgs i hi).keepsT hk hT (by decide) (by decide), RowAt.keepsT h.fts hk hT (by decide), hr, bits_keeps h.bits hk h.ownL, h.ownB, h.ownP, h.ownF, hb, h.injP⟩
theorem encB_range (S : Sh) (pb pc : Nat → Nat) (k g c : Nat) : recs (encB S (fun i => if i = k then g else pb i) (fun i => if i = k then c else pc i)) (List.range (k + 1)) = recs (encB S pb pc) (List.range k) ++ [.slice (some ⟨g, 0, none⟩) S.pages c, .int .i64 0, .int .i64 0] := by
  rw [List.range_succ, recs_app, recs_one]
  congr 1
  · unfold recs
    rw [List.flatMap_def, List.flatMap_def]
    congr 1
    apply List.map_congr_left
    intro i hi
    rw [List.mem_range] at hi
    simp only [encB, if_neg (show ¬ i = k by omega)]
  · simp [encB]
/-- a block more -/
theorem RwC.setB (h : RwC w n0 S k ba bc pb pc fa fc L la lc D) {ba' : Option Addr} {bc' g c : Nat} (hk : Keeps (fun j => Ytglpacdenfoicaa.blk ba = some j) w w') (hr : RowAt w' 107 3 ba' (k + 1) bc' (recs (encB S pb pc) (List.range k) ++ [.slice (some ⟨g, 0, none⟩) S.pages c, .int .i64 0, .int .i64 0]))
    (hb : ∀ j, Ytglpacdenfoicaa.blk ba' = some j → n0 ≤ j) (hp : RpAt w (n0 ≤ ·) S.pages S.bytes g (fun _ => none)) (hg0 : n0 ≤ g) (hg : ∀ i, i < k → pb i ≠ g) :
    RwC w' n0 S (k + 1) ba' bc' (fun i => if i = k then g else pb i) (fun i => if i = k then c else pc i) fa fc L la lc D := by
  have hT := RwC.cell h.row
  refine ⟨?_, ?_, RowAt.keepsT h.fts hk hT (by decide), RowAt.keepsT h.left hk hT (by decide), bits_keeps h.bits hk h.ownB, hb, ?_, h.ownF, h.ownL, ?_⟩
  · unfold RecRow
    rw [encB_range, List.length_range]
    exact hr
  · intro i hi
    by_cases e : i = k
    · simp only [e, if_true]; exact hp.keepsT hk hT (by decide) (by decide)
    · simp only [e, if_false]; exact (h.pgs i (by omega)).keepsT hk hT (by decide) (by decide)
  · intro i hi
    by_cases e : i = k
    · simp only [e, if_true]; exact hg0
    · simp only [e, if_false]; exact h.ownP i (by omega)
  · intro i j hi hj e
    by_cases c1 : i = k <;> by_cases c2 : j = k
    · omega
    · simp only [c1, c2, if_true, if_false] at e; exact absurd e.symm (hg j (by omega))
    · simp only [c1, c2, if_true, if_false] at e; exact absurd e (hg i (by omega))
    · simp only [c1, c2, if_false] at e; exact h.injP i j (by omega) (by omega) e
structure RwB (w : World) (n0 rb : Nat) (S : Sh) (k : Nat) (ba : Option Addr) (bc : Nat) (pb pc : Nat → Nat) (fa : Option Addr) (fc : Nat) (L : List Fx) (la : Option Addr) (lc : Nat) (T : List Int) : Prop where
  blk : w.heap[rb]? = some (.cells (nrCells S ba k bc fa L.length fc la T.length lc) 105 (0, 0))
  ownA : n0 ≤ rb
  c : RwC w n0 S k ba bc pb pc fa fc L la lc T
theorem RwB.nil (h : RwB w n0 rb S k ba bc pb pc fa fc L la lc D) (hk : Keeps Nil w w') : RwB w' n0 rb S k ba bc pb pc fa fc L la lc D := ⟨hk.heap h.blk (fun h => h), h.ownA, h.c.nil hk⟩
/-- its own cell is written -/
theorem RwB.put {ba' fa' la' : Option Addr} {k' bc' fc' lc' i fn ln : Nat} {pb' pc' : Nat → Nat} {L' : List Fx} {D' : List Int} {v : Value} (h : RwC w n0 S k' ba' bc' pb' pc' fa' fc' L' la' lc' D') (hn : n0 ≤ rb) (hb : w.heap[rb]? = some (.cells (nrCells S ba k bc fa fn fc la ln lc) 105 (0, 0)))
    (hv : (nrCells S ba k bc fa fn fc la ln lc).setIfInBounds i v = nrCells S ba' k' bc' fa' L'.length fc' la' D'.length lc') : RwB (w.setCell ⟨rb, i, none⟩ v) n0 rb S k' ba' bc' pb' pc' fa' fc' L' la' lc' D' := by
  refine ⟨?_, hn, h.keep (E := 105) ((Keeps.refl (· = rb) w).setCell (p := ⟨rb, i, none⟩) (.inl rfl) v) (fun j hj => by subst hj; exact ⟨_, _, hb⟩) (fun j hj => by rw [hj]; exact hn) (by decide) (by decide) (by decide) (by decide) (by decide)⟩
  rw [heap_setCell_same hb, hv]
theorem RwB.addF (h : RwB w n0 rb S k ba bc pb pc fa fc L la lc D) {x : Fx} {fa' : Option Addr} {fc' : Nat} (hk : Keeps (fun j => Ytglpacdenfoicaa.blk fa = some j) w w') (hr : RecRow encF 8 w' 33 fa' fc' (L ++ [x])) (hb : ∀ g, Ytglpacdenfoicaa.blk fa' = some g → n0 ≤ g)
    (hx : NumsAt .i64 w x.a x.f.bits) (hxo : 0 < x.f.bits.length → ∀ g, Ytglpacdenfoicaa.blk x.a = some g → g < n0) : RwC w' n0 S k ba bc pb pc fa' fc' (L ++ [x]) la lc D ∧ w'.heap[rb]? = some (.cells (nrCells S ba k bc fa L.length fc la D.length lc) 105 (0, 0)) :=
  ⟨h.c.setF hk hr hb hx hxo, hk.heap h.blk (fun e => RowAt.ne h.c.fts e h.blk (by decide) rfl)⟩
/-- it is made -/
theorem RwB.done (h : RwB w n0 rb S (S.dies * S.blocks) ba bc pb pc fa fc L la lc D) (h0 : 0 < S.dies * S.blocks) {F : List Ft} (hF : L.map (·.f) = F) (hD : D = F.map (·.times)) (ht : ∀ f ∈ F, 0 ≤ f.times) :
    ∃ P, P.rb = rb ∧ P.L = L ∧ RfQ w P (Nd.new S F) (fun g => n0 ≤ g ∧ g < w.heap.size) := by
  rcases RowAt.form h.c.row with ⟨_, h1, _⟩ | ⟨bb, os, hba, hcap, hbb, hsz, htk⟩
  · rw [List.length_range] at h1; omega
  · subst hba
    rw [List.length_range] at hcap
    refine ⟨⟨rb, bb, bc, pb, pc, fa, fc, la, lc, L⟩, rfl, rfl, ?_⟩
    have hDl : D.length = L.length := by rw [hD, ← hF]; simp
    refine ⟨?_, ⟨os, hbb, hcap, Nat.le_of_eq hsz.symm, ?_⟩, ?_, h.c.fts, fun x hx => ⟨(h.c.bits x hx).1, fun q g hg e => by have := (h.c.bits x hx).2 q g hg; omega⟩, ?_, ?_, ⟨h.ownA, lt_of_heap h.blk⟩, ⟨h.c.ownB bb rfl, lt_of_heap hbb⟩, ?_, fun g hg => ⟨h.c.ownF g hg, RowAt.lt h.c.fts hg⟩, fun g hg => ⟨h.c.ownL g hg, RowAt.lt h.c.left hg⟩, h.c.injP, fun k hk => hk.2⟩
    · rw [h.blk, hDl]; rfl
    · intro d n hd hn
      have hlt := flat_lt hd hn
      simp only [Nd.new] at hlt ⊢
      obtain ⟨g, e1, _, _, e2⟩ := RecRow.cell h.c.row (fun _ => rfl) (j := d * S.blocks + n) (x := d * S.blocks + n) (by simp [hlt])
      cases e1
      have a0 := e2 0 _ (by omega) rfl
      have a1 := e2 1 _ (by omega) rfl
      have a2 := e2 2 _ (by omega) rfl
      rw [cell_of_heap hbb] at a0 a1 a2
      exact ⟨a0, a1, a2⟩
    · intro d n hd hn
      obtain ⟨ps, p1, p2, p3⟩ := h.c.pgs _ (flat_lt hd hn)
      refine ⟨ps, p1, p2, fun p hp => ?_⟩
      obtain ⟨x, c, a, b, e, o⟩ := p3 p hp
      exact ⟨x, c, a, b, e, o, RowAt.lt b rfl⟩
    · have : (Nd.new S F).F.map (fun f => (f.left : Int)) = D := by
        rw [hD]
        simp only [Nd.new, List.map_map]
        apply List.map_congr_left
        intro f hf
        simp only [Function.comp, Ft.fresh]
        exact Int.toNat_of_nonneg (ht f hf)
      rw [this]
      exact h.c.left
    · simp only [Nd.new, List.map_map]
      rw [← hF, List.map_map]
      rfl
    · intro d n hd hn
      have hlt := flat_lt hd hn
      obtain ⟨ps, p1, _⟩ := h.c.pgs _ hlt
      exact ⟨h.c.ownP _ hlt, lt_of_heap p1⟩
end
section
open Go.RowKit

variable {w wr wd w5 w' : World} {n0 rb bc fc lc k g q c cap5 : Nat} {S : Sh} {ba fa la a5 pa : Option Addr} {pb pc : Nat → Nat} {L : List Fx} {D : List Int} {x : Fx}
def RwQ (w wr : World) (rb : Nat) (S : Sh) (L : List Fx) (D : List Int) (k : Nat) : Prop :=
  (∃ ba bc pb pc fa fc la lc, RwB wr w.heap.size rb S k ba bc pb pc fa fc L la lc D ∧ (k = 0 → ba = none ∧ bc = 0)) ∧ Keeps Nil w wr ∧ wr.heap[w.heap.size]? = some (.cells (shCells S) 31 (0, 0))
theorem own_step {n0 : Nat} {wx w5 : World} {fa a5 : Option Addr} (hf : ∀ g, blk fa = some g → n0 ≤ g) (hn : n0 ≤ wx.heap.size) (hb : blk a5 = blk fa ∨ blk a5 = some wx.heap.size ∧ wx.heap.size < w5.heap.size) : ∀ g, blk a5 = some g → n0 ≤ g := fun g hg => by
  rcases hb with h | ⟨h, _⟩
  · exact hf g (h ▸ hg)
  · rw [h] at hg; cases hg; exact hn
theorem sh_step {wx w5 : World} {fa : Option Addr} {E : TypeId} {size n cap i : Nat} {xs : List Value} {v : Value} {rb s : Nat} {cs : Array Value} (hr : RowAt wx E size fa n cap xs) (hk : Keeps (fun j => blk fa = some j) wx w5) (hs : wx.heap[s]? = some (.cells (shCells S) 31 (0, 0))) (hE : E ≠ 31) (hb : wx.heap[rb]? = some (.cells cs 105 (0, 0))) :
    (w5.setCell ⟨rb, i, none⟩ v).heap[s]? = some (.cells (shCells S) 31 (0, 0)) := by
  have hs5 := hk.heap hs (fun e => RowAt.ne hr e hs hE rfl)
  rw [heap_setCell_other]
  · exact hs5
  · exact cells_ne hs hb (by decide)
/-- a fault more -/
theorem rwF_step (hB : RwB wd w.heap.size rb S k ba bc pb pc fa fc L la lc D) (hk0 : k = 0 → ba = none ∧ bc = 0) (hkd : Keeps Nil w wd) (hsh : wd.heap[w.heap.size]? = some (.cells (shCells S) 31 (0, 0))) (hx : NumsAt .i64 w x.a x.f.bits)
    (hr5 : RowAt w5 33 8 a5 (L.length + 1) cap5 (recs encF L ++ encF x)) (hk5 : Keeps (fun j => blk fa = some j) (wd.alloc (.cells (encF x).toArray 33)).drew w5)
    (hb5 : blk a5 = blk fa ∨ blk a5 = some (wd.alloc (.cells (encF x).toArray 33)).drew.heap.size ∧ (wd.alloc (.cells (encF x).toArray 33)).drew.heap.size < w5.heap.size) :
    RwQ w (w5.setCell ⟨rb, 5, none⟩ (.slice a5 (L.length + 1) cap5)) rb S (L ++ [x]) D k := by
  have k0 : Keeps Nil wd (wd.alloc (.cells (encF x).toArray 33)).drew := ((Keeps.refl Nil wd).alloc _).drew
  generalize (wd.alloc (.cells (encF x).toArray 33)).drew = wx at k0 hk5 hb5
  have hBx := hB.nil k0
  have hxx : NumsAt .i64 wx x.a x.f.bits := hx.keeps (hkd.trans k0) (fun _ _ h => h)
  have hown5 := own_step hBx.c.ownF (Nat.le_trans hkd.size k0.size) hb5
  have hr : RecRow encF 8 w5 33 a5 cap5 (L ++ [x]) := by
    unfold RecRow
    rw [recs_app, recs_one, List.length_append]
    exact hr5
  obtain ⟨c1, c2⟩ := hBx.addF hk5 hr hown5 hxx (fun h0 g hg => by
    obtain ⟨b, off, e2, hc⟩ := hx 0 h0
    rw [e2] at hg
    cases hg
    exact lt_of_cell hc)
  refine ⟨⟨ba, bc, pb, pc, a5, cap5, la, lc, RwB.put c1 hB.ownA c2 ?_, hk0⟩, ((hkd.trans k0).trans' hk5 (fun j hj => .inr (hBx.c.ownF j hj))).setCell (p := ⟨rb, 5, none⟩) (.inr hBx.ownA) _, sh_step hBx.c.fts hk5 (k0.heap hsh (fun h => h)) (by decide) hBx.blk⟩
  simp [nrCells]
/-- its Times -/
theorem rwL_step {t : Int} (hB : RwB wd w.heap.size rb S k ba bc pb pc fa fc L la lc D) (hk0 : k = 0 → ba = none ∧ bc = 0) (hkd : Keeps Nil w wd) (hsh : wd.heap[w.heap.size]? = some (.cells (shCells S) 31 (0, 0)))
    (hr5 : RowAt w5 3 1 a5 (D.length + 1) cap5 (D.map (Value.int .i64) ++ [Value.int .i64 t])) (hk5 : Keeps (fun j => blk la = some j) (wd.alloc (.cells [Value.int .i64 t].toArray 3)).drew w5)
    (hb5 : blk a5 = blk la ∨ blk a5 = some (wd.alloc (.cells [Value.int .i64 t].toArray 3)).drew.heap.size ∧ (wd.alloc (.cells [Value.int .i64 t].toArray 3)).drew.heap.size < w5.heap.size) :
    RwQ w (w5.setCell ⟨rb, 6, none⟩ (.slice a5 (D.length + 1) cap5)) rb S L (D ++ [t]) k := by
  have k0 : Keeps Nil wd (wd.alloc (.cells [Value.int .i64 t].toArray 3)).drew := ((Keeps.refl Nil wd).alloc _).drew
  generalize (wd.alloc (.cells [Value.int .i64 t].toArray 3)).drew = wx at k0 hk5 hb5
  have hBx := hB.nil k0
  have hown5 := own_step hBx.c.ownL (Nat.le_trans hkd.size k0.size) hb5
  have hr : NumRow .i64 w5 3 a5 cap5 (D ++ [t]) := by
    unfold NumRow
    rw [List.map_append, List.length_append]
    exact hr5
  have c1 := hBx.c.setL hk5 hr hown5
  have c2 := hk5.heap hBx.blk (fun e => RowAt.ne hBx.c.left e hBx.blk (by decide) rfl)
  refine ⟨⟨ba, bc, pb, pc, fa, fc, a5, cap5, RwB.put c1 hB.ownA c2 ?_, hk0⟩, ((hkd.trans k0).trans' hk5 (fun j hj => .inr (hBx.c.ownL j hj))).setCell (p := ⟨rb, 6, none⟩) (.inr hBx.ownA) _, sh_step hBx.c.left hk5 (k0.heap hsh (fun h => h)) (by decide) hBx.blk⟩
  simp [nrCells]
/-! a block that is being made -/
structure BlB (w : World) (n1 g : Nat) (S : Sh) (q : Nat) (pa : Option Addr) (pc : Nat) (xs : List (Nat × Nat)) : Prop where
  blk : w.heap[g]? = some (.cells #[.slice pa q pc, .int .i64 0, .int .i64 0] 107 (0, 0))
  len : xs.length = q
  row : RowAt w 22 1 pa q pc (xs.map fun y => .slice (some ⟨y.1, 0, none⟩) S.bytes y.2)
  pgs : ∀ y ∈ xs, NumRow .u8 w 5 (some ⟨y.1, 0, none⟩) y.2 (List.replicate S.bytes 255) ∧ n1 ≤ y.1
  own : n1 ≤ g
  ownP : ∀ j, Ytglpacdenfoicaa.blk pa = some j → n1 ≤ j
theorem BlB.nil {n1 pc : Nat} {xs : List (Nat × Nat)} (h : BlB w n1 g S q pa pc xs) (hk : Keeps Nil w w') : BlB w' n1 g S q pa pc xs :=
  ⟨hk.heap h.blk (fun h => h), h.len, h.row.keeps hk (fun _ _ h => h), fun y hy => ⟨(h.pgs y hy).1.keeps hk (fun _ _ h => h), (h.pgs y hy).2⟩, h.own, h.ownP⟩
theorem BlB.begin {n1 : Nat} (h : w.heap[g]? = some (.cells #[.slice none 0 0, .int .i64 0, .int .i64 0] 107 (0, 0))) (hn : n1 ≤ g) (S : Sh) : BlB w n1 g S 0 none 0 [] :=
  ⟨h, rfl, RowAt.nil _ _ _, fun _ h => absurd h List.not_mem_nil, hn, fun _ h => by simp [Ytglpacdenfoicaa.blk] at h⟩
/-- a page more -/
theorem BlB.add {n1 pc y z : Nat} {xs : List (Nat × Nat)} {wx : World} (h : BlB wd n1 g S q pa pc xs) (hp : NumRow .u8 wd 5 (some ⟨y, 0, none⟩) z (List.replicate S.bytes 255)) (hy : n1 ≤ y) (k0 : Keeps Nil wd wx) (hn1 : n1 ≤ wd.heap.size)
    (hr5 : RowAt w5 22 1 a5 (q + 1) cap5 ((xs.map fun y => .slice (some ⟨y.1, 0, none⟩) S.bytes y.2) ++ [.slice (some ⟨y, 0, none⟩) S.bytes z])) (hk5 : Keeps (fun j => Ytglpacdenfoicaa.blk pa = some j) wx w5)
    (hb5 : Ytglpacdenfoicaa.blk a5 = Ytglpacdenfoicaa.blk pa ∨ Ytglpacdenfoicaa.blk a5 = some wx.heap.size ∧ wx.heap.size < w5.heap.size) :
    BlB (w5.setCell ⟨g, 0, none⟩ (.slice a5 (q + 1) cap5)) n1 g S (q + 1) a5 cap5 (xs ++ [(y, z)]) := by
  have hx := h.nil k0
  have hpx : NumRow .u8 wx 5 (some ⟨y, 0, none⟩) z (List.replicate S.bytes 255) := hp.keeps k0 (fun _ _ h => h)
  have hown5 := own_step hx.ownP (Nat.le_trans hn1 k0.size) hb5
  have hT := RwC.cell hx.row
  have b5 : w5.heap[g]? = some (.cells #[.slice pa q pc, .int .i64 0, .int .i64 0] 107 (0, 0)) := hk5.heap hx.blk (fun e => RowAt.ne hx.row e hx.blk (by decide) rfl)
  have k6 : Keeps (· = g) w5 (w5.setCell ⟨g, 0, none⟩ (.slice a5 (q + 1) cap5)) := (Keeps.refl (· = g) w5).setCell (p := ⟨g, 0, none⟩) (.inl rfl) _
  have hT6 : ∀ j, j = g → ∃ c f, w5.heap[j]? = some (.cells c 107 f) := fun j hj => by subst hj; exact ⟨_, _, b5⟩
  refine ⟨?_, by simp [h.len], ?_, ?_, h.own, hown5⟩
  · rw [heap_setCell_same b5]; simp
  · rw [List.map_append]
    exact RowAt.keepsT hr5 k6 hT6 (by decide)
  · intro u hu
    have : NumRow .u8 wx 5 (some ⟨u.1, 0, none⟩) u.2 (List.replicate S.bytes 255) ∧ n1 ≤ u.1 := by
      rcases List.mem_append.1 hu with hu | hu
      · exact hx.pgs u hu
      · rw [List.mem_singleton] at hu; subst hu; exact ⟨hpx, hy⟩
    exact ⟨RowAt.keepsT (RowAt.keepsT this.1 hk5 hT (by decide)) k6 hT6 (by decide), this.2⟩
theorem BlB.done {n1 pc : Nat} {xs : List (Nat × Nat)} (h : BlB w n1 g S S.pages pa pc xs) (hp : 0 < S.pages) (hn : n0 ≤ n1) : ∃ g', pa = some ⟨g', 0, none⟩ ∧ n1 ≤ g' ∧ RpAt w (n0 ≤ ·) S.pages S.bytes g' (fun _ => none) := by
  rcases RowAt.form h.row with ⟨_, h1, _⟩ | ⟨g', cur, hpa, hcap, hh, hsz, htk⟩
  · omega
  · subst hpa
    refine ⟨g', rfl, h.ownP g' rfl, cur, hh, by omega, fun p hp => ?_⟩
    obtain ⟨u, hu⟩ : ∃ u, xs[p]? = some u := ⟨_, List.getElem?_eq_getElem (by rw [h.len]; exact hp)⟩
    have h1 : (cur.toList.take (S.pages * 1))[p]? = some (.slice (some ⟨u.1, 0, none⟩) S.bytes u.2) := by rw [htk, List.getElem?_map, hu]; rfl
    rw [List.getElem?_take, if_pos (by omega)] at h1
    obtain ⟨a, b⟩ := h.pgs u (List.mem_of_getElem? hu)
    exact ⟨u.1, u.2, by rw [← Array.getElem?_toList]; exact h1, a, by simp [pgBytes], Nat.le_trans hn b⟩
/-- a block more -/
theorem rwB_step {n1 pc' g' : Nat} {xs : List (Nat × Nat)} (hB : RwB wr w.heap.size rb S k ba bc pb pc fa fc L la lc D) (hkr : Keeps Nil w wr) (hsh : wr.heap[w.heap.size]? = some (.cells (shCells S) 31 (0, 0))) (hn1 : wr.heap.size = n1) (hkd : Keeps Nil wr wd)
    (hD : BlB wd n1 g S S.pages (some ⟨g', 0, none⟩) pc' xs) (hp : 0 < S.pages)
    (hr5 : RowAt w5 107 3 a5 (k + 1) cap5 (recs (encB S pb pc) (List.range k) ++ [.slice (some ⟨g', 0, none⟩) S.pages pc', .int .i64 0, .int .i64 0])) (hk5 : Keeps (fun j => blk ba = some j) (wd.alloc (.cells #[.slice (some ⟨g', 0, none⟩) S.pages pc', .int .i64 0, .int .i64 0] 107)).drew w5)
    (hb5 : blk a5 = blk ba ∨ blk a5 = some (wd.alloc (.cells #[.slice (some ⟨g', 0, none⟩) S.pages pc', .int .i64 0, .int .i64 0] 107)).drew.heap.size ∧ (wd.alloc (.cells #[.slice (some ⟨g', 0, none⟩) S.pages pc', .int .i64 0, .int .i64 0] 107)).drew.heap.size < w5.heap.size) :
    RwQ w (w5.setCell ⟨rb, 4, none⟩ (.slice a5 (k + 1) cap5)) rb S L D (k + 1) := by
  have k0 : Keeps Nil wd (wd.alloc (.cells #[.slice (some ⟨g', 0, none⟩) S.pages pc', .int .i64 0, .int .i64 0] 107)).drew := ((Keeps.refl Nil wd).alloc _).drew
  generalize (wd.alloc (.cells #[.slice (some ⟨g', 0, none⟩) S.pages pc', .int .i64 0, .int .i64 0] 107)).drew = wx at k0 hk5 hb5
  have hBx := (hB.nil hkd).nil k0
  have hown5 := own_step hBx.c.ownB (Nat.le_trans (hkr.trans hkd).size k0.size) hb5
  obtain ⟨g2, e2, hg2, hRp⟩ := (hD.nil k0).done (n0 := w.heap.size) hp (by rw [← hn1]; exact hkr.size)
  cases e2
  have hT := RwC.cell hBx.c.row
  have c1 := hBx.c.setB hk5 hr5 hown5 hRp (Nat.le_trans hkr.size (by rw [hn1]; exact hg2)) (fun i hi e => by
    obtain ⟨ps, p1, _⟩ := hB.c.pgs i hi
    have := lt_of_heap p1
    omega)
  have c2 := hk5.heap hBx.blk (fun e => RowAt.ne hBx.c.row e hBx.blk (by decide) rfl)
  refine ⟨⟨a5, cap5, _, _, fa, fc, la, lc, RwB.put c1 hB.ownA c2 ?_, fun h => absurd h (Nat.succ_ne_zero _)⟩, ((((hkr.trans hkd).trans k0)).trans' hk5 (fun j hj => .inr (hBx.c.ownB j hj))).setCell (p := ⟨rb, 4, none⟩) (.inr hBx.ownA) _, sh_step hBx.c.row hk5 (k0.heap (hkd.heap hsh (fun h => h)) (fun h => h)) (by decide) hBx.blk⟩
  simp [nrCells]
def NrOut (w : World) (S : Sh) (LA : List Fx) (e : Ending) (w' : World) : Prop :=
  ((LA.map (·.f)).all (·.may S) = true → ∃ P O, e = .returned (.tuple #[.pointer (some ⟨P.rb, 0, none⟩), .int .i64 0]) ∧ P.L = LA ∧ RfQ w' P (Nd.new S (LA.map (·.f))) O ∧ Keeps Nil w w' ∧ ∀ k, O k → w.heap.size ≤ k) ∧
  ((LA.map (·.f)).all (·.may S) = false → e = .returned (.tuple #[.pointer none, .int .i64 1]) ∧ Keeps Nil w w')
end
end Go.Proofs.Ytglpacdenfoicaa
