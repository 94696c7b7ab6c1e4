/- the document's array in memory -/
import Derived.Test.YtglpacdenfoicaaNeH
namespace Go.Proofs.Ytglpacdenfoicaa
open Go.RowKit

def Ft.bare (f : Ft) : Ft := { f with left := 0 }
theorem hits_bare (f : Ft) (op k d n : Int) : f.bare.hits op k d n = f.hits op k d n := rfl
theorem cuts_bare (f : Ft) (op : Int) : f.bare.cuts op = f.cuts op := rfl
theorem encF_len (x : Fx) : (encF x).length = 8 := rfl
def rfCells (A : Nd) (bb bc : Nat) (fa : Option Addr) (fn fc : Nat) (la : Option Addr) (lc : Nat) : Array Value :=
  #[.int .i64 (A.S.dies : Nat), .int .i64 (A.S.blocks : Nat), .int .i64 (A.S.pages : Nat), .int .i64 (A.S.bytes : Nat), .slice (some ⟨bb, 0, none⟩) (A.S.dies * A.S.blocks) bc, .slice fa fn fc, .slice la fn lc, .bool A.off, .int .i64 (A.ops : Nat),
    .int .i64 (A.reads : Nat), .int .i64 (A.programs : Nat), .int .i64 (A.erases : Nat), .int .i64 A.flips, .int .i64 (A.fails : Nat), .int .i64 (A.cuts : Nat)]
/-- block g holds a block's pages, each with its bytes -/
def RpAt (w : World) (O : Nat → Prop) (pages bytes g : Nat) (pg : Nat → Option (List Int)) : Prop :=
  ∃ ps : Array Value, w.heap[g]? = some (.cells ps 22 (0, 0)) ∧ pages ≤ ps.size ∧ ∀ p, p < pages → ∃ x c, ps[p]? = some (.slice (some ⟨x, 0, none⟩) bytes c) ∧ NumRow .u8 w 5 (some ⟨x, 0, none⟩) c (pgBytes bytes (pg p)) ∧ (pgBytes bytes (pg p)).length = bytes ∧ O x
structure RfB (w : World) (rb : Nat) (A : Nd) (bb bc : Nat) (pb pc : Nat → Nat) (fa : Option Addr) (fc : Nat) (la : Option Addr) (lc : Nat) (L : List Fx) (O : Nat → Prop) : Prop where
  blk : w.heap[rb]? = some (.cells (rfCells A bb bc fa L.length fc la lc) 105 (0, 0))
  blocks : ∃ cs : Array Value, w.heap[bb]? = some (.cells cs 107 (0, 0)) ∧ A.S.dies * A.S.blocks ≤ bc ∧ bc * 3 ≤ cs.size ∧ ∀ d n, d < A.S.dies → n < A.S.blocks →
    cs[(d * A.S.blocks + n) * 3]? = some (.slice (some ⟨pb (d * A.S.blocks + n), 0, none⟩) A.S.pages (pc (d * A.S.blocks + n))) ∧ cs[(d * A.S.blocks + n) * 3 + 1]? = some (.int .i64 (A.B d n).next) ∧ cs[(d * A.S.blocks + n) * 3 + 2]? = some (.int .i64 ((A.B d n).er : Nat))
  pgs : ∀ d n, d < A.S.dies → n < A.S.blocks → RpAt w O A.S.pages A.S.bytes (pb (d * A.S.blocks + n)) (A.B d n).pg
  fts : RecRow encF 8 w 33 fa fc L
  bits : ∀ x ∈ L, NumsAt .i64 w x.a x.f.bits ∧ (0 < x.f.bits.length → ∀ g, Ytglpacdenfoicaa.blk x.a = some g → ¬ O g)
  left : NumRow .i64 w 3 la lc (A.F.map (fun f => (f.left : Int)))
  fls : L.map (·.f.bare) = A.F.map Ft.bare
  ownA : O rb
  ownB : O bb
  ownP : ∀ d n, d < A.S.dies → n < A.S.blocks → O (pb (d * A.S.blocks + n))
  ownF : ∀ g, Ytglpacdenfoicaa.blk fa = some g → O g
  ownL : ∀ g, Ytglpacdenfoicaa.blk la = some g → O g
  injP : ∀ i j, i < A.S.dies * A.S.blocks → j < A.S.dies * A.S.blocks → pb i = pb j → i = j
  lt : ∀ k, O k → k < w.heap.size
variable {w w' : World} {rb bb bc fc lc : Nat} {pb pc : Nat → Nat} {fa la : Option Addr} {L : List Fx} {A A' : Nd} {O T : Nat → Prop}
theorem NumsAt.keeps0 {k : IntKind} {S : Nat → Prop} {w w' : World} {a : Option Addr} {d : List Int} (h : NumsAt k w a d) (hk : Keeps S w w') (hn : 0 < d.length → ∀ b, Ytglpacdenfoicaa.blk a = some b → ¬ S b) : NumsAt k w' a d := by
  by_cases h0 : 0 < d.length
  · exact h.keeps hk (hn h0)
  · intro j hj
    omega
theorem flat_lt {D N d n : Nat} (hd : d < D) (hn : n < N) : d * N + n < D * N := by
  have := Nat.mul_le_mul_right N (show d + 1 ≤ D from hd)
  rw [Nat.add_mul, Nat.one_mul] at this
  omega
theorem flat_inj {N d n d' n' : Nat} (hn : n < N) (hn' : n' < N) (h : d * N + n = d' * N + n') : d = d' ∧ n = n' := by
  have h1 : (d * N + n) / N = d := by rw [Nat.mul_comm, Nat.mul_add_div (by omega), Nat.div_eq_of_lt hn]; omega
  have h2 : (d' * N + n') / N = d' := by rw [Nat.mul_comm, Nat.mul_add_div (by omega), Nat.div_eq_of_lt hn']; omega
  have hb : d = d' := by rw [← h1, ← h2, h]
  subst hb
  exact ⟨rfl, by omega⟩
theorem RpAt.keeps {pages bytes g : Nat} {pg : Nat → Option (List Int)} (h : RpAt w O pages bytes g pg) (hk : Keeps T w w') (hn : ∀ k, O k → ¬ T k) (hg : ¬ T g) : RpAt w' O pages bytes g pg := by
  obtain ⟨ps, h1, h2, h3⟩ := h
  exact ⟨ps, hk.heap h1 hg, h2, fun p hp => by
    obtain ⟨x, c, a, b, e, o⟩ := h3 p hp
    exact ⟨x, c, a, b.keeps hk (fun q hq => by cases hq; exact hn _ o), e, o⟩⟩
/-- blocks that are not its own may turn, but for the faults' bits -/
theorem RfB.keeps (h : RfB w rb A bb bc pb pc fa fc la lc L O) (hk : Keeps T w w') (hn : ∀ k, O k → ¬ T k) (hb : ∀ x ∈ L, 0 < x.f.bits.length → ∀ g, Ytglpacdenfoicaa.blk x.a = some g → ¬ T g) : RfB w' rb A bb bc pb pc fa fc la lc L O := by
  refine ⟨hk.heap h.blk (hn _ h.ownA), ?_, fun d n hd hn2 => (h.pgs d n hd hn2).keeps hk hn (hn _ (h.ownP d n hd hn2)), h.fts.keeps hk (fun g hg => hn _ (h.ownF g hg)), fun x hx => ⟨(h.bits x hx).1.keeps0 hk (hb x hx), (h.bits x hx).2⟩, h.left.keeps hk (fun g hg => hn _ (h.ownL g hg)), h.fls, h.ownA, h.ownB, h.ownP, h.ownF, h.ownL, h.injP, fun k hk2 => Nat.lt_of_lt_of_le (h.lt k hk2) hk.size⟩
  obtain ⟨cs, h1, h2⟩ := h.blocks
  exact ⟨cs, hk.heap h1 (hn _ h.ownB), h2⟩
theorem RfB.nil (h : RfB w rb A bb bc pb pc fa fc la lc L O) (hk : Keeps Nil w w') : RfB w' rb A bb bc pb pc fa fc la lc L O := h.keeps hk (fun _ _ h => h) (fun _ _ _ _ _ h => h)
theorem RfB.cell (h : RfB w rb A bb bc pb pc fa fc la lc L O) (i : Nat) : w.cell? ⟨rb, i, none⟩ = (rfCells A bb bc fa L.length fc la lc)[i]? := cell_of_heap h.blk i
/-- a block's three cells -/
theorem RfB.cellD (h : RfB w rb A bb bc pb pc fa fc la lc L O) {d n : Nat} (hd : d < A.S.dies) (hn : n < A.S.blocks) : w.cell? ⟨bb, (d * A.S.blocks + n) * 3, none⟩ = some (.slice (some ⟨pb (d * A.S.blocks + n), 0, none⟩) A.S.pages (pc (d * A.S.blocks + n))) ∧
    w.cell? ⟨bb, (d * A.S.blocks + n) * 3 + 1, none⟩ = some (.int .i64 (A.B d n).next) ∧ w.cell? ⟨bb, (d * A.S.blocks + n) * 3 + 2, none⟩ = some (.int .i64 ((A.B d n).er : Nat)) ∧ ∀ o, w.frozen? ⟨bb, o, none⟩ = false := by
  obtain ⟨cs, h1, _, _, h4⟩ := h.blocks
  obtain ⟨a, b, c⟩ := h4 d n hd hn
  exact ⟨(cell_of_heap h1 _).trans a, (cell_of_heap h1 _).trans b, (cell_of_heap h1 _).trans c, fun o => frozen_of_heap h1 o⟩
theorem RfB.struck (h : RfB w rb A bb bc pb pc fa fc la lc L O) (op k d n : Int) : L.any (fun x => x.f.hits op k d n) = A.struck op k d n := by
  unfold Nd.struck
  have := congrArg (fun l => l.any (fun f : Ft => f.hits op k d n)) h.fls
  simp only [List.any_map] at this
  exact this
theorem RfB.cut (h : RfB w rb A bb bc pb pc fa fc la lc L O) (op : Int) : (L.find? (fun x => x.f.cuts op)).map (·.f.part) = A.cut op := by
  unfold Nd.cut
  have := congrArg (fun l => (l.find? (fun f : Ft => f.cuts op)).map (·.part)) h.fls
  simp only [List.find?_map, Option.map_map] at this
  exact this
/-! ### it is written -/
/-- its own block -/
theorem RfB.editA (h : RfB w rb A bb bc pb pc fa fc la lc L O) (hk : Keeps (· = rb) w w') (hb : w'.heap[rb]? = some (.cells (rfCells A' bb bc fa L.length fc la lc) 105 (0, 0))) (hS : A'.S = A.S) (hB : A'.B = A.B) (hF : A'.F = A.F) : RfB w' rb A' bb bc pb pc fa fc la lc L O := by
  refine ⟨hb, ?_, ?_, h.fts.keeps hk (fun g hg => RowAt.ne h.fts hg h.blk (by decide)), fun x hx => ⟨(h.bits x hx).1.keeps0 hk (fun h0 g hg e => (h.bits x hx).2 h0 g hg (by rw [e]; exact h.ownA)), (h.bits x hx).2⟩, by rw [hF]; exact h.left.keeps hk (fun g hg => RowAt.ne h.left hg h.blk (by decide)), by rw [hF]; exact h.fls, h.ownA, h.ownB, by rw [hS]; exact h.ownP, h.ownF, h.ownL, by rw [hS]; exact h.injP, fun k hk2 => Nat.lt_of_lt_of_le (h.lt k hk2) hk.size⟩
  · obtain ⟨cs, h1, h2⟩ := h.blocks
    rw [hS, hB]
    exact ⟨cs, hk.heap h1 (cells_ne h1 h.blk (by decide)), h2⟩
  · intro d n hd hn
    rw [hS] at hd hn ⊢
    rw [hB]
    obtain ⟨ps, p1, p2, p3⟩ := h.pgs d n hd hn
    refine ⟨ps, hk.heap p1 (cells_ne p1 h.blk (by decide)), p2, fun p hp => ?_⟩
    obtain ⟨x, c, a, b, e, o⟩ := p3 p hp
    exact ⟨x, c, a, b.keeps hk (fun q hq => RowAt.ne b hq h.blk (by decide)), e, o⟩
/-- a block's number -/
theorem RfB.editD (h : RfB w rb A bb bc pb pc fa fc la lc L O) {d n : Nat} (hd : d < A.S.dies) (hn : n < A.S.blocks) {k' : Bk} (hpg : k'.pg = (A.B d n).pg) (hk : Keeps (· = bb) w w')
    {cs' : Array Value} (hc : w'.heap[bb]? = some (.cells cs' 107 (0, 0))) (hsz : bc * 3 ≤ cs'.size)
    (h0 : cs'[(d * A.S.blocks + n) * 3]? = some (.slice (some ⟨pb (d * A.S.blocks + n), 0, none⟩) A.S.pages (pc (d * A.S.blocks + n)))) (h1 : cs'[(d * A.S.blocks + n) * 3 + 1]? = some (.int .i64 k'.next)) (h2 : cs'[(d * A.S.blocks + n) * 3 + 2]? = some (.int .i64 (k'.er : Nat)))
    (ho : ∀ cs, w.heap[bb]? = some (.cells cs 107 (0, 0)) → ∀ i, i ≠ d * A.S.blocks + n → cs'[i * 3]? = cs[i * 3]? ∧ cs'[i * 3 + 1]? = cs[i * 3 + 1]? ∧ cs'[i * 3 + 2]? = cs[i * 3 + 2]?) : RfB w' rb (A.setB d n k') bb bc pb pc fa fc la lc L O := by
  obtain ⟨cs, c1, c2, c3, c4⟩ := h.blocks
  refine ⟨hk.heap h.blk (fun e => cells_ne c1 h.blk (by decide) e.symm), ⟨cs', hc, c2, hsz, ?_⟩, ?_, h.fts.keeps hk (fun g hg => RowAt.ne h.fts hg c1 (by decide)), fun x hx => ⟨(h.bits x hx).1.keeps0 hk (fun h0 g hg e => (h.bits x hx).2 h0 g hg (by rw [e]; exact h.ownB)), (h.bits x hx).2⟩, h.left.keeps hk (fun g hg => RowAt.ne h.left hg c1 (by decide)), h.fls, h.ownA, h.ownB, h.ownP, h.ownF, h.ownL, h.injP, fun k hk2 => Nat.lt_of_lt_of_le (h.lt k hk2) hk.size⟩
  · intro i j hi hj
    by_cases e : i = d ∧ j = n
    · obtain ⟨rfl, rfl⟩ := e
      rw [Nd.setB_same]
      exact ⟨h0, h1, h2⟩
    · rw [Nd.setB_other _ _ e]
      have hne : i * A.S.blocks + j ≠ d * A.S.blocks + n := fun q => e (flat_inj hj hn q)
      obtain ⟨o0, o1, o2⟩ := ho cs c1 _ hne
      obtain ⟨a, b, c⟩ := c4 i j hi hj
      exact ⟨o0.trans a, o1.trans b, o2.trans c⟩
  · intro i j hi hj
    have e : ((A.setB d n k').B i j).pg = (A.B i j).pg := by
      unfold Nd.setB
      by_cases hx : i = d ∧ j = n
      · simp only [hx, and_self, if_true]; rw [hpg]
      · simp only [hx, if_false]
    rw [e]
    obtain ⟨ps, p1, p2, p3⟩ := h.pgs i j hi hj
    refine ⟨ps, hk.heap p1 (cells_ne p1 c1 (by decide)), p2, fun p hp => ?_⟩
    obtain ⟨x, c, a, b, e, o⟩ := p3 p hp
    exact ⟨x, c, a, b.keeps hk (fun q hq => RowAt.ne b hq c1 (by decide)), e, o⟩
theorem RfB.setNext (h : RfB w rb A bb bc pb pc fa fc la lc L O) {d n : Nat} (hd : d < A.S.dies) (hn : n < A.S.blocks) (x : Int) :
    RfB (w.setCell ⟨bb, (d * A.S.blocks + n) * 3 + 1, none⟩ (.int .i64 x)) rb (A.setB d n ((A.B d n).at x)) bb bc pb pc fa fc la lc L O := by
  obtain ⟨cs, c1, c2, c3, c4⟩ := h.blocks
  obtain ⟨a, b, c⟩ := c4 d n hd hn
  have hi := flat_lt hd hn
  refine h.editD (k' := (A.B d n).at x) hd hn rfl ((Keeps.refl (· = bb) w).setCell (p := ⟨bb, (d * A.S.blocks + n) * 3 + 1, none⟩) (.inl rfl) _) (heap_setCell_same c1 _ _) (by simpa using c3) ((set_off (by omega)).trans a) (set_at (by omega)) ((set_off (by omega)).trans c) ?_
  intro cs2 hc2 i hne
  rw [c1] at hc2
  cases hc2
  exact ⟨set_off (by omega), set_off (by omega), set_off (by omega)⟩
theorem RfB.setEr (h : RfB w rb A bb bc pb pc fa fc la lc L O) {d n : Nat} (hd : d < A.S.dies) (hn : n < A.S.blocks) :
    RfB (w.setCell ⟨bb, (d * A.S.blocks + n) * 3 + 2, none⟩ (.int .i64 (((A.B d n).er + 1 : Nat) : Int))) rb (A.setB d n (A.B d n).wear) bb bc pb pc fa fc la lc L O := by
  obtain ⟨cs, c1, c2, c3, c4⟩ := h.blocks
  obtain ⟨a, b, c⟩ := c4 d n hd hn
  have hi := flat_lt hd hn
  refine h.editD (k' := (A.B d n).wear) hd hn rfl ((Keeps.refl (· = bb) w).setCell (p := ⟨bb, (d * A.S.blocks + n) * 3 + 2, none⟩) (.inl rfl) _) (heap_setCell_same c1 _ _) (by simpa using c3) ((set_off (by omega)).trans a) ((set_off (by omega)).trans b) (set_at (by omega)) ?_
  intro cs2 hc2 i hne
  rw [c1] at hc2
  cases hc2
  exact ⟨set_off (by omega), set_off (by omega), set_off (by omega)⟩
/-- a page is laid -/
theorem RfB.setPage (h : RfB w rb A bb bc pb pc fa fc la lc L O) {d n p x c : Nat} {l : List Int} {k' : Bk} (hd : d < A.S.dies) (hn : n < A.S.blocks) (hp : p < A.S.pages) (hx : NumRow .u8 w 5 (some ⟨x, 0, none⟩) c l) (hl : l.length = A.S.bytes) (hxb : ∀ y ∈ L, 0 < y.f.bits.length → ∀ g, Ytglpacdenfoicaa.blk y.a = some g → g ≠ x)
    (hnx : k'.next = (A.B d n).next) (her : k'.er = (A.B d n).er) (hpg : ∀ q, q < A.S.pages → pgBytes A.S.bytes (k'.pg q) = if q = p then l else pgBytes A.S.bytes ((A.B d n).pg q)) :
    RfB (w.setCell ⟨pb (d * A.S.blocks + n), p, none⟩ (.slice (some ⟨x, 0, none⟩) A.S.bytes c)) rb (A.setB d n k') bb bc pb pc fa fc la lc L (fun k => O k ∨ k = x) := by
  obtain ⟨ps, p1, p2, p3⟩ := h.pgs d n hd hn
  obtain ⟨cs, c1, c2, c3, c4⟩ := h.blocks
  have hk : Keeps (· = pb (d * A.S.blocks + n)) w (w.setCell ⟨pb (d * A.S.blocks + n), p, none⟩ (.slice (some ⟨x, 0, none⟩) A.S.bytes c)) := (Keeps.refl (· = pb (d * A.S.blocks + n)) w).setCell (.inl rfl) _
  refine ⟨hk.heap h.blk (fun e => cells_ne p1 h.blk (by decide) e.symm), ⟨cs, hk.heap c1 (cells_ne c1 p1 (by decide)), c2, c3, ?_⟩, ?_, h.fts.keeps hk (fun g hg => RowAt.ne h.fts hg p1 (by decide)), fun y hy => ⟨(h.bits y hy).1.keeps0 hk (fun h0 g hg e => (h.bits y hy).2 h0 g hg (by rw [e]; exact h.ownP d n hd hn)), fun h0 g hg e => ?_⟩, h.left.keeps hk (fun g hg => RowAt.ne h.left hg p1 (by decide)), h.fls, .inl h.ownA, .inl h.ownB, fun d n hd hn => .inl (h.ownP d n hd hn), fun g hg => .inl (h.ownF g hg), fun g hg => .inl (h.ownL g hg), h.injP, fun k hk2 => ?_⟩
  · intro i j hi hj
    by_cases e : i = d ∧ j = n
    · obtain ⟨rfl, rfl⟩ := e
      rw [Nd.setB_same, hnx, her]
      exact c4 i j hi hj
    · rw [Nd.setB_other _ _ e]
      exact c4 i j hi hj
  · intro i j hi hj
    by_cases e : i = d ∧ j = n
    · obtain ⟨rfl, rfl⟩ := e
      rw [Nd.setB_same]
      refine ⟨_, heap_setCell_same p1 _ _, by rw [Array.size_setIfInBounds]; exact p2, fun q hq => ?_⟩
      show ∃ x_1 c_1, _ ∧ NumRow _ _ _ _ _ (pgBytes A.S.bytes (k'.pg q)) ∧ (pgBytes A.S.bytes (k'.pg q)).length = A.S.bytes ∧ _
      rw [hpg q hq]
      by_cases hqp : q = p
      · subst hqp
        rw [if_pos rfl]
        exact ⟨x, c, set_at (by show q < ps.size; have : q < A.S.pages := hq; omega), hx.keeps hk (fun g hg => RowAt.ne hx hg p1 (by decide)), hl, .inr rfl⟩
      · rw [if_neg hqp]
        obtain ⟨x2, c2, a, b, e, o⟩ := p3 q hq
        exact ⟨x2, c2, (set_off (fun e => hqp e.symm)).trans a, b.keeps hk (fun g hg => RowAt.ne b hg p1 (by decide)), e, .inl o⟩
    · rw [Nd.setB_other _ _ e]
      obtain ⟨qs, q1, q2, q3⟩ := h.pgs i j hi hj
      refine ⟨qs, hk.heap q1 (fun e2 => e (flat_inj hj hn (h.injP _ _ (flat_lt hi hj) (flat_lt hd hn) e2))), q2, fun q hq => ?_⟩
      obtain ⟨x2, c2, a, b, e, o⟩ := q3 q hq
      exact ⟨x2, c2, a, b.keeps hk (fun g hg => RowAt.ne b hg p1 (by decide)), e, .inl o⟩
  · rcases e with e | e
    · exact (h.bits y hy).2 h0 g hg e
    · exact hxb y hy h0 g hg e
  · rcases hk2 with hk2 | hk2
    · exact Nat.lt_of_lt_of_le (h.lt k hk2) hk.size
    · subst hk2
      exact Nat.lt_of_lt_of_le (RowAt.lt hx rfl) hk.size
/-- how often a fault still comes -/
theorem RfB.setLeft (h : RfB w rb A bb bc pb pc fa fc la lc L O) {g i : Nat} {f : Ft} (hla : la = some ⟨g, 0, none⟩) (hf : A.F[i]? = some f) (y : Nat) :
    RfB (w.setCell ⟨g, i, none⟩ (.int .i64 (y : Nat))) rb { A with F := A.F.set i { f with left := y } } bb bc pb pc fa fc la lc L O := by
  subst hla
  obtain ⟨c, hc⟩ : ∃ c, w.heap[g]? = some (.cells c 3 (0, 0)) := RowAt.heap h.left rfl
  have hk : Keeps (· = g) w (w.setCell ⟨g, i, none⟩ (.int .i64 (y : Nat))) := (Keeps.refl (· = g) w).setCell (.inl rfl) _
  have hg := h.ownL g rfl
  refine ⟨hk.heap h.blk (fun e => cells_ne hc h.blk (by decide) e.symm), ?_, ?_, h.fts.keeps hk (fun q hq => RowAt.ne h.fts hq hc (by decide)), fun x hx => ⟨(h.bits x hx).1.keeps0 hk (fun h0 q hq e => (h.bits x hx).2 h0 q hq (by rw [e]; exact hg)), (h.bits x hx).2⟩, ?_, ?_, h.ownA, h.ownB, h.ownP, h.ownF, h.ownL, h.injP, fun k hk2 => Nat.lt_of_lt_of_le (h.lt k hk2) hk.size⟩
  · obtain ⟨cs, h1, h2⟩ := h.blocks
    exact ⟨cs, hk.heap h1 (cells_ne h1 hc (by decide)), h2⟩
  · intro d n hd hn
    obtain ⟨ps, p1, p2, p3⟩ := h.pgs d n hd hn
    refine ⟨ps, hk.heap p1 (cells_ne p1 hc (by decide)), p2, fun p hp => ?_⟩
    obtain ⟨x, c2, a, b, e, o⟩ := p3 p hp
    exact ⟨x, c2, a, b.keeps hk (fun q hq => RowAt.ne b hq hc (by decide)), e, o⟩
  · have := h.left.set i (y : Int)
    rw [List.map_set]
    exact this
  · rw [h.fls, List.map_set]
    have he : (A.F.map Ft.bare)[i]? = some f.bare := by rw [List.getElem?_map, hf]; rfl
    rw [show ({ f with left := y } : Ft).bare = f.bare from rfl]
    apply List.ext_getElem?
    intro j
    by_cases hj : j = i
    · subst hj
      rw [List.getElem?_set_self', he]; rfl
    · rw [List.getElem?_set_ne (by omega)]
end Go.Proofs.Ytglpacdenfoicaa
