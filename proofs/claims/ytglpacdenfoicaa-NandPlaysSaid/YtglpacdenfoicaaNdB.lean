/- an array of dies in memory; what stays when a block of it is written -/
import Derived.Test.YtglpacdenfoicaaNdA
namespace Go.Proofs.Ytglpacdenfoicaa
open Go.RowKit

def NumRow (k : IntKind) (w : World) (E : TypeId) (a : Option Addr) (cap : Nat) (ys : List Int) : Prop := RowAt w E 1 a ys.length cap (ys.map (Value.int k))
theorem NumRow.cell {k : IntKind} {w : World} {E : TypeId} {a : Option Addr} {cap : Nat} {ys : List Int} (h : NumRow k w E a cap ys) {q : Nat} (hq : q < ys.length) : ∃ g, a = some ⟨g, 0, none⟩ ∧ g < w.heap.size ∧ w.cell? ⟨g, q, none⟩ = some (.int k (gi ys q)) ∧ w.frozen? ⟨g, q, none⟩ = false := by
  rcases h.form with ⟨_, h2, _⟩ | ⟨g, cur, ha, hn, hh, hs, ht⟩
  · omega
  · subst ha
    have := h.src.2.2 ⟨g, 0, none⟩ rfl q (.int k (gi ys q)) (by simp [gi_eq hq, hq])
    rw [Addr.add_lit, Nat.zero_add] at this
    exact ⟨g, rfl, lt_of_heap hh, this, frozen_of_heap hh q⟩
theorem NumRow.set {k : IntKind} {w : World} {E : TypeId} {g cap : Nat} {ys : List Int} (h : NumRow k w E (some ⟨g, 0, none⟩) cap ys) (q : Nat) (y : Int) : NumRow k (w.setCell ⟨g, q, none⟩ (.int k y)) E (some ⟨g, 0, none⟩) cap (ys.set q y) := by
  have := RowAt.setCell (o := q) h (.int k y)
  unfold NumRow
  rw [List.length_set, List.map_set]
  exact this
theorem NumRow.keeps {k : IntKind} {S : Nat → Prop} {w w' : World} {E : TypeId} {a : Option Addr} {cap : Nat} {ys : List Int} (h : NumRow k w E a cap ys) (hk : Keeps S w w') (hn : ∀ g, blk a = some g → ¬ S g) : NumRow k w' E a cap ys := RowAt.keeps h hk hn
theorem NumRow.nums {k : IntKind} {w : World} {E : TypeId} {a : Option Addr} {cap : Nat} {ys : List Int} (h : NumRow k w E a cap ys) : NumsAt k w a ys := fun j hj => by
  obtain ⟨g, rfl, _, hc, _⟩ := h.cell hj
  exact ⟨g, 0, rfl, by rw [Nat.zero_add]; exact hc⟩
theorem NumsAt.src {k : IntKind} {w : World} {a : Option Addr} {xs : List Int} (h : NumsAt k w a xs) (hn : a = none → xs.length = 0) : Src w a 1 xs.length (xs.map (.int k)) := by
  refine ⟨by simp, hn, ?_⟩
  intro ad ha j u hu
  have hj : j < xs.length := by
    have := (List.getElem?_eq_some_iff.1 hu).1
    simpa using this
  obtain ⟨b, off, hb, hc⟩ := h j hj
  rw [ha] at hb; cases hb
  simp [hj] at hu
  rw [← gi_eq hj] at hu
  subst hu
  rw [Addr.add_lit]; exact hc

/-! ### faults in memory -/
structure Fx where
  f : Ft
  a : Option Addr
  c : Nat
def encX (x : Fx) : List Value := [.int .i64 x.f.kind, .int .i64 x.f.time, .int .i64 x.f.die, .int .i64 x.f.block, .int .i64 x.f.page, .int .i64 x.f.times, .int .i64 x.f.part, .slice x.a x.f.bits.length x.c, .int .i64 (x.f.left : Nat)]
theorem encX_len (x : Fx) : (encX x).length = 9 := rfl

/-! ### the array in memory -/
def ndCells (A : Nd) (bb bc : Nat) (fa : Option Addr) (fn fc : Nat) : Array Value :=
  #[.int .i64 (A.S.dies : Nat), .int .i64 (A.S.blocks : Nat), .int .i64 (A.S.pages : Nat), .int .i64 (A.S.bytes : Nat), .slice (some ⟨bb, 0, none⟩) A.S.dies bc, .slice fa fn fc, .bool A.off, .int .i64 (A.ops : Nat),
    .int .i64 (A.reads : Nat), .int .i64 (A.programs : Nat), .int .i64 (A.erases : Nat), .int .i64 A.flips, .int .i64 (A.fails : Nat), .int .i64 (A.cuts : Nat)]
/-- a page's slice -/
def PgV (w : World) (O : Nat → Prop) (v : Value) : Option (List Int) → Prop
  | none => v = .slice none 0 0
  | some l => ∃ x c, v = .slice (some ⟨x, 0, none⟩) l.length c ∧ NumRow .u8 w 5 (some ⟨x, 0, none⟩) c l ∧ O x
/-- block g holds a block's pages -/
def PgsAt (w : World) (O : Nat → Prop) (pages g : Nat) (pg : Nat → Option (List Int)) : Prop :=
  ∃ ps : Array Value, w.heap[g]? = some (.cells ps 22 (0, 0)) ∧ ps.size = pages ∧ ∀ p, p < pages → ∃ v, ps[p]? = some v ∧ PgV w O v (pg p)
/-- block g holds a die's blocks -/
def DieAt (w : World) (blocks pages g : Nat) (pb : Nat → Nat) (B : Nat → Bk) : Prop :=
  ∃ cs : Array Value, w.heap[g]? = some (.cells cs 82 (0, 0)) ∧ cs.size = blocks * 3 ∧
    ∀ n, n < blocks → cs[n * 3]? = some (.slice (some ⟨pb n, 0, none⟩) pages pages) ∧ cs[n * 3 + 1]? = some (.int .i64 (B n).next) ∧ cs[n * 3 + 2]? = some (.int .i64 ((B n).er : Nat))
structure NdB (w : World) (ab : Nat) (A : Nd) (bb bc : Nat) (db : Nat → Nat) (pb : Nat → Nat → Nat) (fa : Option Addr) (fc : Nat) (L : List Fx) (O : Nat → Prop) : Prop where
  blk : w.heap[ab]? = some (.cells (ndCells A bb bc fa L.length fc) 74 (0, 0))
  outer : ∃ os : Array Value, w.heap[bb]? = some (.cells os 79 (0, 0)) ∧ A.S.dies ≤ bc ∧ ∀ d, d < A.S.dies → os[d]? = some (.slice (some ⟨db d, 0, none⟩) A.S.blocks A.S.blocks)
  die : ∀ d, d < A.S.dies → DieAt w A.S.blocks A.S.pages (db d) (pb d) (A.B d)
  pgs : ∀ d n, d < A.S.dies → n < A.S.blocks → PgsAt w O A.S.pages (pb d n) (A.B d n).pg
  fts : RecRow encX 9 w 78 fa fc L
  bits : ∀ x ∈ L, NumRow .i64 w 3 x.a x.c x.f.bits ∧ ∀ g, Ytglpacdenfoicaa.blk x.a = some g → O g
  fls : L.map (·.f) = A.F
  ownA : O ab
  ownB : O bb
  ownD : ∀ d, d < A.S.dies → O (db d)
  ownP : ∀ d n, d < A.S.dies → n < A.S.blocks → O (pb d n)
  ownF : ∀ g, Ytglpacdenfoicaa.blk fa = some g → O g
  injD : ∀ d d', d < A.S.dies → d' < A.S.dies → db d = db d' → d = d'
  injP : ∀ d n d' n', d < A.S.dies → n < A.S.blocks → d' < A.S.dies → n' < A.S.blocks → pb d n = pb d' n' → d = d' ∧ n = n'
  lt : ∀ k, O k → k < w.heap.size
def NdAt (w : World) (ab : Nat) (A : Nd) (O : Nat → Prop) : Prop := ∃ bb bc db pb fa fc L, NdB w ab A bb bc db pb fa fc L O

variable {w w' : World} {ab bb bc fc : Nat} {db : Nat → Nat} {pb : Nat → Nat → Nat} {fa : Option Addr} {L : List Fx} {A A' : Nd} {O T : Nat → Prop}
theorem PgV.keeps {v : Value} {o : Option (List Int)} (h : PgV w O v o) (hk : Keeps T w w') (hn : ∀ k, O k → ¬ T k) : PgV w' O v o := by
  cases o with
  | none => exact h
  | some l =>
    obtain ⟨x, c, h1, h2, h3⟩ := h
    exact ⟨x, c, h1, h2.keeps hk (fun g hg => by simp [Ytglpacdenfoicaa.blk] at hg; rw [← hg]; exact hn _ h3), h3⟩
theorem PgV.mono {O' : Nat → Prop} {v : Value} {o : Option (List Int)} (h : PgV w O v o) (hm : ∀ k, O k → O' k) : PgV w O' v o := by
  cases o with
  | none => exact h
  | some l =>
    obtain ⟨x, c, h1, h2, h3⟩ := h
    exact ⟨x, c, h1, h2, hm _ h3⟩
theorem PgsAt.keeps {pages g : Nat} {pg : Nat → Option (List Int)} (h : PgsAt w O pages g pg) (hk : Keeps T w w') (hn : ∀ k, O k → ¬ T k) (hg : ¬ T g) : PgsAt w' O pages g pg := by
  obtain ⟨ps, h1, h2, h3⟩ := h
  exact ⟨ps, hk.heap h1 hg, h2, fun p hp => by obtain ⟨v, a, b⟩ := h3 p hp; exact ⟨v, a, b.keeps hk hn⟩⟩
theorem DieAt.keeps {blocks pages g : Nat} {pb : Nat → Nat} {B : Nat → Bk} (h : DieAt w blocks pages g pb B) (hk : Keeps T w w') (hg : ¬ T g) : DieAt w' blocks pages g pb B := by
  obtain ⟨cs, h1, h2⟩ := h
  exact ⟨cs, hk.heap h1 hg, h2⟩
theorem NdB.keeps (h : NdB w ab A bb bc db pb fa fc L O) (hk : Keeps T w w') (hn : ∀ k, O k → ¬ T k) : NdB w' ab A bb bc db pb fa fc L O := by
  refine ⟨hk.heap h.blk (hn _ h.ownA), ?_, fun d hd => (h.die d hd).keeps hk (hn _ (h.ownD d hd)), fun d n hd hn2 => (h.pgs d n hd hn2).keeps hk hn (hn _ (h.ownP d n hd hn2)), h.fts.keeps hk (fun g hg => hn _ (h.ownF g hg)), fun x hx => ⟨(h.bits x hx).1.keeps hk (fun g hg => hn _ ((h.bits x hx).2 g hg)), (h.bits x hx).2⟩, h.fls, h.ownA, h.ownB, h.ownD, h.ownP, h.ownF, h.injD, h.injP, fun k hk2 => Nat.lt_of_lt_of_le (h.lt k hk2) hk.size⟩
  obtain ⟨os, h1, h2⟩ := h.outer
  exact ⟨os, hk.heap h1 (hn _ h.ownB), h2⟩
theorem NdAt.keeps (h : NdAt w ab A O) (hk : Keeps T w w') (hn : ∀ k, O k → ¬ T k) : NdAt w' ab A O := by
  obtain ⟨bb, bc, db, pb, fa, fc, L, h⟩ := h
  exact ⟨bb, bc, db, pb, fa, fc, L, h.keeps hk hn⟩
theorem NdAt.nil (h : NdAt w ab A O) (hk : Keeps Nil w w') : NdAt w' ab A O := h.keeps hk (fun _ _ h => h)
theorem NdAt.own (h : NdAt w ab A O) : O ab := by obtain ⟨_, _, _, _, _, _, _, h⟩ := h; exact h.ownA
theorem NdAt.lt (h : NdAt w ab A O) {k : Nat} (hk : O k) : k < w.heap.size := by obtain ⟨_, _, _, _, _, _, _, h⟩ := h; exact h.lt k hk

/-! blocks of different kinds are different ones -/
theorem cells_ne {g g' : Nat} {c c' : Array Value} {t t' : TypeId} {f f' : Nat × Nat} (h : w.heap[g]? = some (.cells c t f)) (h' : w.heap[g']? = some (.cells c' t' f')) (ht : t ≠ t') : g ≠ g' := by
  rintro rfl
  rw [h] at h'
  injection h' with e
  injection e with _ e2
  exact ht e2
theorem NumRow.ne {k : IntKind} {E : TypeId} {x cap : Nat} {ys : List Int} (h : NumRow k w E (some ⟨x, 0, none⟩) cap ys) {g : Nat} {c : Array Value} {t : TypeId} {f : Nat × Nat} (hg : w.heap[g]? = some (.cells c t f)) (ht : E ≠ t) : x ≠ g := by
  rcases RowAt.form h with ⟨h1, _⟩ | ⟨g', cur, h1, _, h2, _⟩
  · cases h1
  · cases h1
    exact cells_ne h2 hg ht
theorem RecRow.ne {x : Nat} (h : RecRow encX 9 w 78 fa fc L) (hx : Ytglpacdenfoicaa.blk fa = some x) {g : Nat} {c : Array Value} {t : TypeId} {f : Nat × Nat} (hg : w.heap[g]? = some (.cells c t f)) (ht : 78 ≠ t) : x ≠ g := by
  rcases RowAt.form h with ⟨h1, _⟩ | ⟨g', cur, h1, _, h2, _⟩
  · rw [h1] at hx; cases hx
  · rw [h1] at hx; simp [Ytglpacdenfoicaa.blk] at hx; subst hx
    exact cells_ne h2 hg ht
/-- pages and bits stay where a block of another kind is written -/
theorem PgV.edit {v : Value} {o : Option (List Int)} (h : PgV w O v o) {g : Nat} {c : Array Value} {t : TypeId} {f : Nat × Nat} (hg : w.heap[g]? = some (.cells c t f)) (ht : 5 ≠ t) (hk : Keeps (· = g) w w') : PgV w' O v o := by
  cases o with
  | none => exact h
  | some l =>
    obtain ⟨x, cp, h1, h2, h3⟩ := h
    exact ⟨x, cp, h1, h2.keeps hk (fun g' hg' => by simp [Ytglpacdenfoicaa.blk] at hg'; subst hg'; exact h2.ne hg ht), h3⟩
theorem NumRow.ne' {k : IntKind} {E : TypeId} {a : Option Addr} {x cap : Nat} {ys : List Int} (h : NumRow k w E a cap ys) (hx : Ytglpacdenfoicaa.blk a = some x) {g : Nat} {c : Array Value} {t : TypeId} {f : Nat × Nat} (hg : w.heap[g]? = some (.cells c t f)) (ht : E ≠ t) : x ≠ g := by
  rcases RowAt.form h with ⟨h1, _⟩ | ⟨g', cur, h1, _, h2, _⟩
  · rw [h1] at hx; cases hx
  · rw [h1] at hx; simp [Ytglpacdenfoicaa.blk] at hx; subst hx
    exact cells_ne h2 hg ht
theorem PgsAt.edit {pages g : Nat} {pg : Nat → Option (List Int)} (h : PgsAt w O pages g pg) {b : Nat} {c : Array Value} {t : TypeId} {f : Nat × Nat} (hb : w.heap[b]? = some (.cells c t f)) (ht : 5 ≠ t) (hne : g ≠ b) (hk : Keeps (· = b) w w') : PgsAt w' O pages g pg := by
  obtain ⟨ps, h1, h2, h3⟩ := h
  exact ⟨ps, hk.heap h1 hne, h2, fun p hp => by obtain ⟨v, a, q⟩ := h3 p hp; exact ⟨v, a, q.edit hb ht hk⟩⟩
theorem PgsAt.mono {O' : Nat → Prop} {pages g : Nat} {pg : Nat → Option (List Int)} (h : PgsAt w O pages g pg) (hm : ∀ k, O k → O' k) : PgsAt w O' pages g pg := by
  obtain ⟨ps, h1, h2, h3⟩ := h
  exact ⟨ps, h1, h2, fun p hp => by obtain ⟨v, a, q⟩ := h3 p hp; exact ⟨v, a, q.mono hm⟩⟩
theorem NdB.heapP (h : NdB w ab A bb bc db pb fa fc L O) {d n : Nat} (hd : d < A.S.dies) (hn : n < A.S.blocks) : ∃ ps : Array Value, w.heap[pb d n]? = some (.cells ps 22 (0, 0)) := by
  obtain ⟨ps, h1, _⟩ := h.pgs d n hd hn
  exact ⟨ps, h1⟩
theorem NdB.heapD (h : NdB w ab A bb bc db pb fa fc L O) {d : Nat} (hd : d < A.S.dies) : ∃ cs : Array Value, w.heap[db d]? = some (.cells cs 82 (0, 0)) := by
  obtain ⟨cs, h1, _⟩ := h.die d hd
  exact ⟨cs, h1⟩
theorem NdB.heapB (h : NdB w ab A bb bc db pb fa fc L O) : ∃ os : Array Value, w.heap[bb]? = some (.cells os 79 (0, 0)) := by
  obtain ⟨os, h1, _⟩ := h.outer
  exact ⟨os, h1⟩

/-- the array's own block is written: numbers of what has happened -/
theorem NdB.editA (h : NdB w ab A bb bc db pb fa fc L O) (hk : Keeps (· = ab) w w') (hb : w'.heap[ab]? = some (.cells (ndCells A' bb bc fa L.length fc) 74 (0, 0))) (hS : A'.S = A.S) (hB : A'.B = A.B) (hF : A'.F = A.F) :
    NdB w' ab A' bb bc db pb fa fc L O := by
  refine ⟨hb, ?_, ?_, ?_, h.fts.keeps hk (fun g hg => h.fts.ne hg h.blk (by decide)), fun x hx => ⟨(h.bits x hx).1.keeps hk (fun g hg => (h.bits x hx).1.ne' hg h.blk (by decide)), (h.bits x hx).2⟩, by rw [hF]; exact h.fls, h.ownA, h.ownB, by rw [hS]; exact h.ownD, by rw [hS]; exact h.ownP, h.ownF, by rw [hS]; exact h.injD, by rw [hS]; exact h.injP, fun k hk2 => Nat.lt_of_lt_of_le (h.lt k hk2) hk.size⟩
  · obtain ⟨os, h1, h2⟩ := h.outer
    rw [hS]
    exact ⟨os, hk.heap h1 (cells_ne h1 h.blk (by decide)), h2⟩
  · intro d hd
    rw [hS] at hd ⊢
    rw [hB]
    obtain ⟨cs, hc⟩ := h.heapD hd
    exact (h.die d hd).keeps hk (cells_ne hc h.blk (by decide))
  · intro d n hd hn
    rw [hS] at hd hn ⊢
    rw [hB]
    obtain ⟨ps, hp⟩ := h.heapP hd hn
    exact (h.pgs d n hd hn).edit h.blk (by decide) (cells_ne hp h.blk (by decide)) hk
/-- a die's row is written: a block's number of its next page, of its erases -/
theorem NdB.editD (h : NdB w ab A bb bc db pb fa fc L O) {d n : Nat} (hd : d < A.S.dies) {k' : Bk} (hk : Keeps (· = db d) w w') (hpg : k'.pg = (A.B d n).pg)
    (hD : DieAt w' A.S.blocks A.S.pages (db d) (pb d) (fun j => if j = n then k' else A.B d j)) : NdB w' ab (A.setB d n k') bb bc db pb fa fc L O := by
  obtain ⟨cs, hc⟩ := h.heapD hd
  refine ⟨hk.heap h.blk (fun e => cells_ne hc h.blk (by decide) e.symm), ?_, ?_, ?_, h.fts.keeps hk (fun g hg => h.fts.ne hg hc (by decide)), fun x hx => ⟨(h.bits x hx).1.keeps hk (fun g hg => (h.bits x hx).1.ne' hg hc (by decide)), (h.bits x hx).2⟩, h.fls, h.ownA, h.ownB, h.ownD, h.ownP, h.ownF, h.injD, h.injP, fun k hk2 => Nat.lt_of_lt_of_le (h.lt k hk2) hk.size⟩
  · obtain ⟨os, h1, h2⟩ := h.outer
    exact ⟨os, hk.heap h1 (cells_ne h1 hc (by decide)), h2⟩
  · intro j hj
    by_cases hjd : j = d
    · subst hjd
      have e : (A.setB j n k').B j = fun i => if i = n then k' else A.B j i := by funext i; simp [Nd.setB]
      rw [e]; exact hD
    · have e : (A.setB d n k').B j = A.B j := by funext i; simp [Nd.setB, hjd]
      rw [e]
      exact (h.die j hj).keeps hk (fun e => hjd (h.injD j d hj hd e))
  · intro j m hj hm
    obtain ⟨ps, hp⟩ := h.heapP hj hm
    have e : ((A.setB d n k').B j m).pg = (A.B j m).pg := by
      unfold Nd.setB
      by_cases hx : j = d ∧ m = n
      · simp only [hx, and_self, if_true]; rw [hpg]
      · simp only [hx, if_false]
    rw [e]
    exact (h.pgs j m hj hm).edit hc (by decide) (cells_ne hp hc (by decide)) hk
theorem set_at {cs : Array Value} {i : Nat} {v : Value} (h : i < cs.size) : (cs.setIfInBounds i v)[i]? = some v := by rw [Array.getElem?_setIfInBounds, if_pos rfl, if_pos h]
theorem set_off {cs : Array Value} {i j : Nat} {v : Value} (h : i ≠ j) : (cs.setIfInBounds i v)[j]? = cs[j]? := by rw [Array.getElem?_setIfInBounds, if_neg h]
theorem DieAt.setNext {blocks pages g : Nat} {pb : Nat → Nat} {B : Nat → Bk} (h : DieAt w blocks pages g pb B) {n : Nat} (hn : n < blocks) (x : Int) :
    DieAt (w.setCell ⟨g, n * 3 + 1, none⟩ (.int .i64 x)) blocks pages g pb (fun j => if j = n then (B n).at x else B j) := by
  obtain ⟨cs, h1, h2, h3⟩ := h
  refine ⟨_, heap_setCell_same h1 _ _, by simpa using h2, fun j hj => ?_⟩
  obtain ⟨a, b, c⟩ := h3 j hj
  by_cases hjn : j = n
  · subst hjn
    simp only [if_true]
    exact ⟨(set_off (by omega)).trans a, set_at (by omega), (set_off (by omega)).trans c⟩
  · simp only [hjn, if_false]
    exact ⟨(set_off (by omega)).trans a, (set_off (by omega)).trans b, (set_off (by omega)).trans c⟩
theorem DieAt.setEr {blocks pages g : Nat} {pb : Nat → Nat} {B : Nat → Bk} (h : DieAt w blocks pages g pb B) {n : Nat} (hn : n < blocks) {k' : Bk} (hk : k'.next = (B n).next) :
    DieAt (w.setCell ⟨g, n * 3 + 2, none⟩ (.int .i64 (k'.er : Nat))) blocks pages g pb (fun j => if j = n then k' else B j) := by
  obtain ⟨cs, h1, h2, h3⟩ := h
  refine ⟨_, heap_setCell_same h1 _ _, by simpa using h2, fun j hj => ?_⟩
  obtain ⟨a, b, c⟩ := h3 j hj
  by_cases hjn : j = n
  · subst hjn
    simp only [if_true]
    exact ⟨(set_off (by omega)).trans a, (set_off (by omega)).trans (by rw [hk]; exact b), set_at (by omega)⟩
  · simp only [hjn, if_false]
    exact ⟨(set_off (by omega)).trans a, (set_off (by omega)).trans b, (set_off (by omega)).trans c⟩
/-- a block's pages are written -/
theorem NdB.editP {O' : Nat → Prop} (h : NdB w ab A bb bc db pb fa fc L O) {d n : Nat} (hd : d < A.S.dies) (hn : n < A.S.blocks) {k' : Bk} (hk : Keeps (· = pb d n) w w') (hnx : k'.next = (A.B d n).next) (her : k'.er = (A.B d n).er)
    (hO : ∀ k, O k → O' k) (hlt : ∀ k, O' k → k < w'.heap.size) (hP : PgsAt w' O' A.S.pages (pb d n) k'.pg) : NdB w' ab (A.setB d n k') bb bc db pb fa fc L O' := by
  obtain ⟨ps, hc⟩ := h.heapP hd hn
  refine ⟨hk.heap h.blk (fun e => cells_ne hc h.blk (by decide) e.symm), ?_, ?_, ?_, h.fts.keeps hk (fun g hg => h.fts.ne hg hc (by decide)), fun x hx => ⟨(h.bits x hx).1.keeps hk (fun g hg => (h.bits x hx).1.ne' hg hc (by decide)), fun g hg => hO g ((h.bits x hx).2 g hg)⟩, h.fls, hO _ h.ownA, hO _ h.ownB, fun d hd => hO _ (h.ownD d hd), fun d n hd hn => hO _ (h.ownP d n hd hn), fun g hg => hO g (h.ownF g hg), h.injD, h.injP, hlt⟩
  · obtain ⟨os, h1, h2⟩ := h.outer
    exact ⟨os, hk.heap h1 (cells_ne h1 hc (by decide)), h2⟩
  · intro j hj
    obtain ⟨cs, hcd⟩ := h.heapD hj
    have hne : db j ≠ pb d n := cells_ne hcd hc (by decide)
    obtain ⟨cs2, q1, q2, q3⟩ := (h.die j hj).keeps hk hne
    refine ⟨cs2, q1, q2, fun m hm => ?_⟩
    obtain ⟨a, b, c⟩ := q3 m hm
    by_cases hx : j = d ∧ m = n
    · obtain ⟨rfl, rfl⟩ := hx
      rw [Nd.setB_same, hnx, her]; exact ⟨a, b, c⟩
    · rw [Nd.setB_other _ _ hx]; exact ⟨a, b, c⟩
  · intro j m hj hm
    by_cases hx : j = d ∧ m = n
    · obtain ⟨rfl, rfl⟩ := hx
      rw [Nd.setB_same]; exact hP
    · rw [Nd.setB_other _ _ hx]
      exact ((h.pgs j m hj hm).edit hc (by decide) (fun e => hx (h.injP j m d n hj hm hd hn e)) hk).mono hO
theorem PgsAt.set {O' : Nat → Prop} {pages g : Nat} {pg : Nat → Option (List Int)} (h : PgsAt w O pages g pg) {p : Nat} (hp : p < pages) {x c : Nat} {l : List Int} (hx : NumRow .u8 w 5 (some ⟨x, 0, none⟩) c l) (hO : ∀ k, O k → O' k) (hOx : O' x) :
    PgsAt (w.setCell ⟨g, p, none⟩ (.slice (some ⟨x, 0, none⟩) l.length c)) O' pages g (fun i => if i = p then some l else pg i) := by
  obtain ⟨ps, h1, h2, h3⟩ := h
  have hk : Keeps (· = g) w (w.setCell ⟨g, p, none⟩ (.slice (some ⟨x, 0, none⟩) l.length c)) := (Keeps.refl (· = g) w).setCell (.inl rfl) _
  refine ⟨_, heap_setCell_same h1 _ _, by simpa using h2, fun j hj => ?_⟩
  by_cases hjp : j = p
  · subst hjp
    refine ⟨_, set_at (by omega), ?_⟩
    simp only [if_true]
    exact ⟨x, c, rfl, hx.keeps hk (fun q hq => by simp [Ytglpacdenfoicaa.blk] at hq; subst hq; exact hx.ne h1 (by decide)), hOx⟩
  · obtain ⟨v, a, b⟩ := h3 j hj
    refine ⟨v, (set_off (fun e => hjp e.symm)).trans a, ?_⟩
    simp only [hjp, if_false]
    exact (b.edit h1 (by decide) hk).mono hO
/-- how often a fault still comes is written -/
theorem NdB.editF (h : NdB w ab A bb bc db pb fa fc L O) {g i : Nat} {x : Fx} (hfa : fa = some ⟨g, 0, none⟩) (hx : L[i]? = some x) (y : Nat) :
    NdB (w.setCell ⟨g, i * 9 + 8, none⟩ (.int .i64 (y : Nat))) ab { A with F := A.F.set i { x.f with left := y } } bb bc db pb fa fc (L.set i { x with f := { x.f with left := y } }) O := by
  subst hfa
  have hk : Keeps (· = g) w (w.setCell ⟨g, i * 9 + 8, none⟩ (.int .i64 (y : Nat))) := (Keeps.refl (· = g) w).setCell (.inl rfl) _
  obtain ⟨cur, hc⟩ : ∃ cur, w.heap[g]? = some (.cells cur 78 (0, 0)) := by
    rcases RowAt.form h.fts with ⟨h1, _⟩ | ⟨g', cur, h1, _, h2, _⟩
    · cases h1
    · cases h1; exact ⟨cur, h2⟩
  have hr := h.fts.setField encX_len (i := 8) (y := { x with f := { x.f with left := y } }) (v := .int .i64 (y : Nat)) (by decide) hx (by rfl)
  refine ⟨?_, ?_, ?_, ?_, hr, ?_, ?_, h.ownA, h.ownB, h.ownD, h.ownP, h.ownF, h.injD, h.injP, fun k hk2 => Nat.lt_of_lt_of_le (h.lt k hk2) hk.size⟩
  · rw [List.length_set]
    exact hk.heap h.blk (fun e => cells_ne hc h.blk (by decide) e.symm)
  · obtain ⟨os, h1, h2⟩ := h.outer
    exact ⟨os, hk.heap h1 (cells_ne h1 hc (by decide)), h2⟩
  · intro d hd
    obtain ⟨cs, hcs⟩ := h.heapD hd
    exact (h.die d hd).keeps hk (cells_ne hcs hc (by decide))
  · intro d n hd hn
    obtain ⟨ps, hp⟩ := h.heapP hd hn
    exact (h.pgs d n hd hn).edit hc (by decide) (cells_ne hp hc (by decide)) hk
  · intro z hz
    have hb : ∃ z0 ∈ L, z0.a = z.a ∧ z0.c = z.c ∧ z0.f.bits = z.f.bits := by
      rcases List.mem_or_eq_of_mem_set hz with h1 | h1
      · exact ⟨z, h1, rfl, rfl, rfl⟩
      · exact ⟨x, List.mem_of_getElem? hx, by rw [h1], by rw [h1], by rw [h1]⟩
    obtain ⟨z0, hz0, e1, e2, e3⟩ := hb
    rw [← e1, ← e2, ← e3]
    exact ⟨(h.bits z0 hz0).1.keeps hk (fun q hq => (h.bits z0 hz0).1.ne' hq hc (by decide)), (h.bits z0 hz0).2⟩
  · rw [List.map_set, h.fls]
end Go.Proofs.Ytglpacdenfoicaa
