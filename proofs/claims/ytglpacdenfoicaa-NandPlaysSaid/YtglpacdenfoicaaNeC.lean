/- nand: an array that is being made -/
import Derived.Test.YtglpacdenfoicaaNdB
import Derived.Test.YtglpacdenfoicaaRows
namespace Go.Proofs.Ytglpacdenfoicaa
open Go.RowKit

def Ft.fresh (f : Ft) : Ft := { f with left := f.times.toNat }
def bk0 : Bk := ⟨fun _ => none, 0, 0⟩
def Nd.new (S : Sh) (F : List Ft) : Nd := { S := S, B := fun _ _ => bk0, F := F.map Ft.fresh, off := false, ops := 0, reads := 0, programs := 0, erases := 0, flips := 0, fails := 0, cuts := 0 }
def nwCells (S : Sh) (ba : Option Addr) (k bc : Nat) (fa : Option Addr) (fn fc : Nat) : Array Value :=
  #[.int .i64 (S.dies : Nat), .int .i64 (S.blocks : Nat), .int .i64 (S.pages : Nat), .int .i64 (S.bytes : Nat), .slice ba k bc, .slice fa fn fc, .bool false, .int .i64 0, .int .i64 0, .int .i64 0, .int .i64 0, .int .i64 0, .int .i64 0, .int .i64 0]
def dieVs (S : Sh) (db : Nat → Nat) (k : Nat) : List Value := (List.range k).map fun d => .slice (some ⟨db d, 0, none⟩) S.blocks S.blocks
/-- no block -/
def No : Nat → Prop := fun _ => False
structure NwB (w : World) (n0 ab : Nat) (S : Sh) (k : Nat) (ba : Option Addr) (bc : Nat) (db : Nat → Nat) (pb : Nat → Nat → Nat) (fa : Option Addr) (fc : Nat) (L : List Fx) : Prop where
  blk : w.heap[ab]? = some (.cells (nwCells S ba k bc fa L.length fc) 74 (0, 0))
  row : RowAt w 79 1 ba k bc (dieVs S db k)
  die : ∀ d, d < k → DieAt w S.blocks S.pages (db d) (pb d) (fun _ => bk0)
  pgs : ∀ d n, d < k → n < S.blocks → PgsAt w No S.pages (pb d n) (fun _ => none)
  fts : RecRow encX 9 w 78 fa fc L
  bits : ∀ x ∈ L, NumRow .i64 w 3 x.a x.c x.f.bits ∧ ∀ g, Ytglpacdenfoicaa.blk x.a = some g → n0 ≤ g
  ownA : n0 ≤ ab
  ownB : ∀ g, Ytglpacdenfoicaa.blk ba = some g → n0 ≤ g
  ownD : ∀ d, d < k → n0 ≤ db d
  ownP : ∀ d n, d < k → n < S.blocks → n0 ≤ pb d n
  ownF : ∀ g, Ytglpacdenfoicaa.blk fa = some g → n0 ≤ g
  injD : ∀ d d', d < k → d' < k → db d = db d' → d = d'
  injP : ∀ d n d' n', d < k → n < S.blocks → d' < k → n' < S.blocks → pb d n = pb d' n' → d = d' ∧ n = n'
variable {w w' : World} {n0 ab bc fc k : Nat} {S : Sh} {ba fa : Option Addr} {db : Nat → Nat} {pb : Nat → Nat → Nat} {L : List Fx} {T : Nat → Prop}
theorem NwB.nil (h : NwB w n0 ab S k ba bc db pb fa fc L) (hk : Keeps Nil w w') : NwB w' n0 ab S k ba bc db pb fa fc L :=
  ⟨hk.heap h.blk (fun h => h), h.row.keeps hk (fun _ _ h => h), fun d hd => (h.die d hd).keeps hk (fun h => h), fun d n hd hn => (h.pgs d n hd hn).keeps hk (fun _ h => h.elim) (fun h => h), h.fts.keeps hk (fun _ _ h => h), fun x hx => ⟨(h.bits x hx).1.keeps hk (fun _ _ h => h), (h.bits x hx).2⟩, h.ownA, h.ownB, h.ownD, h.ownP, h.ownF, h.injD, h.injP⟩
/-- it begins -/
theorem NwB.begin (S : Sh) (hb : w.heap[ab]? = some (.cells (nwCells S none 0 0 none 0 0) 74 (0, 0))) (hn : n0 ≤ ab) : NwB w n0 ab S 0 none 0 (fun _ => 0) (fun _ _ => 0) none 0 [] :=
  ⟨hb, RowAt.nil _ _ _, fun _ h => absurd h (Nat.not_lt_zero _), fun _ _ h => absurd h (Nat.not_lt_zero _), RecRow.nil _ _, fun _ h => absurd h (List.not_mem_nil), hn, fun _ h => by simp [Ytglpacdenfoicaa.blk] at h, fun _ h => absurd h (Nat.not_lt_zero _), fun _ _ h => absurd h (Nat.not_lt_zero _), fun _ h => by simp [Ytglpacdenfoicaa.blk] at h, fun _ _ h => absurd h (Nat.not_lt_zero _), fun _ _ _ _ h => absurd h (Nat.not_lt_zero _)⟩
theorem RowAt.ne {x cap n : Nat} {E : TypeId} {size : Nat} {a : Option Addr} {xs : List Value} (h : RowAt w E size a n cap xs) (hx : Ytglpacdenfoicaa.blk a = some x) {g : Nat} {c : Array Value} {t : TypeId} {f : Nat × Nat} (hg : w.heap[g]? = some (.cells c t f)) (ht : E ≠ t) : x ≠ g := by
  rcases RowAt.form h with ⟨h1, _⟩ | ⟨g', cur, h1, _, h2, _⟩
  · rw [h1] at hx; cases hx
  · rw [h1] at hx; simp [Ytglpacdenfoicaa.blk] at hx; subst hx
    exact cells_ne h2 hg ht
theorem RowAt.heap {x cap n : Nat} {E : TypeId} {size : Nat} {a : Option Addr} {xs : List Value} (h : RowAt w E size a n cap xs) (hx : Ytglpacdenfoicaa.blk a = some x) : ∃ c, w.heap[x]? = some (.cells c E (0, 0)) := by
  rcases RowAt.form h with ⟨h1, _⟩ | ⟨g', cur, h1, _, h2, _⟩
  · rw [h1] at hx; cases hx
  · rw [h1] at hx; simp [Ytglpacdenfoicaa.blk] at hx; subst hx
    exact ⟨cur, h2⟩
theorem PgsAt.none_keeps {pages g : Nat} (h : PgsAt w No pages g (fun _ => none)) (hk : Keeps T w w') (hg : ¬ T g) : PgsAt w' No pages g (fun _ => none) := h.keeps hk (fun _ h => h.elim) hg
/-- all but the array's own block stays where blocks of type E alone are written -/
theorem NwB.edit (h : NwB w n0 ab S k ba bc db pb fa fc L) (hk : Keeps T w w') {E : TypeId} (hT : ∀ j, T j → ∃ c f, w.heap[j]? = some (.cells c E f)) (h1 : E ≠ 82) (h2 : E ≠ 22) (h3 : E ≠ 3) :
    (∀ d, d < k → DieAt w' S.blocks S.pages (db d) (pb d) (fun _ => bk0)) ∧ (∀ d n, d < k → n < S.blocks → PgsAt w' No S.pages (pb d n) (fun _ => none)) ∧ (∀ x ∈ L, NumRow .i64 w' 3 x.a x.c x.f.bits) := by
  refine ⟨fun d hd => (h.die d hd).keeps hk ?_, fun d n hd hn => (h.pgs d n hd hn).none_keeps hk ?_, fun x hx => (h.bits x hx).1.keeps hk ?_⟩
  · intro e
    obtain ⟨c, f, hc⟩ := hT _ e
    obtain ⟨cs, hcs, _⟩ := h.die d hd
    exact cells_ne hcs hc (fun e => h1 e.symm) rfl
  · intro e
    obtain ⟨c, f, hc⟩ := hT _ e
    obtain ⟨cs, hcs, _⟩ := h.pgs d n hd hn
    exact cells_ne hcs hc (fun e => h2 e.symm) rfl
  · intro g hg e
    obtain ⟨c, f, hc⟩ := hT _ e
    exact (h.bits x hx).1.ne' hg hc (fun e => h3 e.symm) rfl
/-- a fault more -/
theorem NwB.addF (h : NwB w n0 ab S k ba bc db pb fa fc L) {x : Fx} {fa' : Option Addr} {fc' : Nat} (hk : Keeps (fun j => Ytglpacdenfoicaa.blk fa = some j) w w') (hr : RecRow encX 9 w' 78 fa' fc' (L ++ [x]))
    (hb : ∀ g, Ytglpacdenfoicaa.blk fa' = some g → n0 ≤ g) (hx : NumRow .i64 w' 3 x.a x.c x.f.bits) (hxo : ∀ g, Ytglpacdenfoicaa.blk x.a = some g → n0 ≤ g) :
    NwB (w'.setCell ⟨ab, 5, none⟩ (.slice fa' (L.length + 1) fc')) n0 ab S k ba bc db pb fa' fc' (L ++ [x]) := by
  have hT : ∀ j, Ytglpacdenfoicaa.blk fa = some j → ∃ c f, w.heap[j]? = some (.cells c 78 f) := fun j hj => by
    obtain ⟨c, hc⟩ := RowAt.heap h.fts hj
    exact ⟨c, _, hc⟩
  obtain ⟨e1, e2, e3⟩ := h.edit hk hT (by decide) (by decide) (by decide)
  have hab : w'.heap[ab]? = some (.cells (nwCells S ba k bc fa L.length fc) 74 (0, 0)) := hk.heap h.blk (fun e => RowAt.ne h.fts e h.blk (by decide) rfl)
  have hrow : RowAt w' 79 1 ba k bc (dieVs S db k) := h.row.keeps hk (fun g hg e => by
    obtain ⟨c, hc⟩ := RowAt.heap h.fts e
    exact h.row.ne hg hc (by decide) rfl)
  have k2 : Keeps (· = ab) w' (w'.setCell ⟨ab, 5, none⟩ (.slice fa' (L.length + 1) fc')) := (Keeps.refl (· = ab) w').setCell (.inl rfl) _
  refine ⟨?_, hrow.keeps k2 (fun g hg => hrow.ne hg hab (by decide)), fun d hd => (e1 d hd).keeps k2 ?_, fun d n hd hn => (e2 d n hd hn).none_keeps k2 ?_, hr.keeps k2 (fun g hg => RowAt.ne hr hg hab (by decide)), ?_, h.ownA, h.ownB, h.ownD, h.ownP, hb, h.injD, h.injP⟩
  · rw [heap_setCell_same hab]
    simp [nwCells]
  · obtain ⟨cs, hcs, _⟩ := e1 d hd
    exact cells_ne hcs hab (by decide)
  · obtain ⟨cs, hcs, _⟩ := e2 d n hd hn
    exact cells_ne hcs hab (by decide)
  · intro y hy
    rcases List.mem_append.1 hy with hy | hy
    · exact ⟨(e3 y hy).keeps k2 (fun g hg => (e3 y hy).ne' hg hab (by decide)), (h.bits y hy).2⟩
    · rw [List.mem_singleton] at hy
      subst hy
      exact ⟨hx.keeps k2 (fun g hg => hx.ne' hg hab (by decide)), hxo⟩
/-- a die more -/
theorem NwB.addD (h : NwB w n0 ab S k ba bc db pb fa fc L) {ba' : Option Addr} {bc' g n1 : Nat} {pk : Nat → Nat} (hk : Keeps (fun j => Ytglpacdenfoicaa.blk ba = some j) w w') (hr : RowAt w' 79 1 ba' (k + 1) bc' (dieVs S db k ++ [.slice (some ⟨g, 0, none⟩) S.blocks S.blocks]))
    (hb : ∀ j, Ytglpacdenfoicaa.blk ba' = some j → n0 ≤ j) (hd : DieAt w' S.blocks S.pages g pk (fun _ => bk0)) (hp : ∀ n, n < S.blocks → PgsAt w' No S.pages (pk n) (fun _ => none))
    (hg0 : n0 ≤ g) (hn1 : n0 ≤ n1) (hg1 : ∀ d, d < k → db d ≠ g) (hp1 : ∀ n, n < S.blocks → n1 ≤ pk n) (hpl : ∀ d n, d < k → n < S.blocks → pb d n < n1) (hpi : ∀ n n', n < S.blocks → n' < S.blocks → pk n = pk n' → n = n') :
    NwB (w'.setCell ⟨ab, 4, none⟩ (.slice ba' (k + 1) bc')) n0 ab S (k + 1) ba' bc' (fun d => if d = k then g else db d) (fun d => if d = k then pk else pb d) fa fc L := by
  have hT : ∀ j, Ytglpacdenfoicaa.blk ba = some j → ∃ c f, w.heap[j]? = some (.cells c 79 f) := fun j hj => by
    obtain ⟨c, hc⟩ := RowAt.heap h.row hj
    exact ⟨c, _, hc⟩
  obtain ⟨e1, e2, e3⟩ := h.edit hk hT (by decide) (by decide) (by decide)
  have hab : w'.heap[ab]? = some (.cells (nwCells S ba k bc fa L.length fc) 74 (0, 0)) := hk.heap h.blk (fun e => RowAt.ne h.row e h.blk (by decide) rfl)
  have hfts : RecRow encX 9 w' 78 fa fc L := h.fts.keeps hk (fun g hg e => by
    obtain ⟨c, hc⟩ := RowAt.heap h.row e
    exact RowAt.ne h.fts hg hc (by decide) rfl)
  have k2 : Keeps (· = ab) w' (w'.setCell ⟨ab, 4, none⟩ (.slice ba' (k + 1) bc')) := (Keeps.refl (· = ab) w').setCell (.inl rfl) _
  have hdv : dieVs S (fun d => if d = k then g else db d) (k + 1) = dieVs S db k ++ [.slice (some ⟨g, 0, none⟩) S.blocks S.blocks] := by
    unfold dieVs
    rw [List.range_succ, List.map_append]
    congr 1
    · apply List.map_congr_left
      intro d hd
      rw [List.mem_range] at hd
      show Value.slice (some ⟨if d = k then g else db d, 0, none⟩) _ _ = _
      rw [if_neg (by omega)]
    · simp
  refine ⟨?_, ?_, ?_, ?_, hfts.keeps k2 (fun g hg => RowAt.ne hfts hg hab (by decide)), fun y hy => ⟨(e3 y hy).keeps k2 (fun g hg => (e3 y hy).ne' hg hab (by decide)), (h.bits y hy).2⟩, h.ownA, hb, ?_, ?_, h.ownF, ?_, ?_⟩
  · rw [heap_setCell_same hab]
    simp [nwCells]
  · rw [hdv]
    exact hr.keeps k2 (fun j hj => hr.ne hj hab (by decide))
  · intro d hdk
    by_cases hd2 : d = k
    · simp only [hd2, if_true]
      obtain ⟨cs, hcs, hcs2⟩ := hd
      exact DieAt.keeps ⟨cs, hcs, hcs2⟩ k2 (cells_ne hcs hab (by decide))
    · simp only [hd2, if_false]
      obtain ⟨cs, hcs, _⟩ := e1 d (by omega)
      exact (e1 d (by omega)).keeps k2 (cells_ne hcs hab (by decide))
  · intro d n hdk hn
    by_cases hd2 : d = k
    · simp only [hd2, if_true]
      obtain ⟨cs, hcs, _⟩ := hp n hn
      exact (hp n hn).none_keeps k2 (cells_ne hcs hab (by decide))
    · simp only [hd2, if_false]
      obtain ⟨cs, hcs, _⟩ := e2 d n (by omega) hn
      exact (e2 d n (by omega) hn).none_keeps k2 (cells_ne hcs hab (by decide))
  · intro d hdk
    by_cases hd2 : d = k
    · simp only [hd2, if_true]; exact hg0
    · simp only [hd2, if_false]; exact h.ownD d (by omega)
  · intro d n hdk hn
    by_cases hd2 : d = k
    · simp only [hd2, if_true]; exact Nat.le_trans hn1 (hp1 n hn)
    · simp only [hd2, if_false]; exact h.ownP d n (by omega) hn
  · intro d d' hd hd' e
    by_cases c1 : d = k <;> by_cases c2 : d' = k
    · omega
    · simp only [c1, c2, if_true, if_false] at e
      exact absurd e.symm (hg1 d' (by omega))
    · simp only [c1, c2, if_true, if_false] at e
      exact absurd e (hg1 d (by omega))
    · simp only [c1, c2, if_false] at e
      exact h.injD d d' (by omega) (by omega) e
  · intro d n d' n' hd hn hd' hn' e
    by_cases c1 : d = k <;> by_cases c2 : d' = k
    · simp only [c1, c2, if_true] at e
      exact ⟨by omega, hpi n n' hn hn' e⟩
    · simp only [c1, c2, if_true, if_false] at e
      have := hpl d' n' (by omega) hn'
      have := hp1 n hn
      omega
    · simp only [c1, c2, if_true, if_false] at e
      have := hpl d n (by omega) hn
      have := hp1 n' hn'
      omega
    · simp only [c1, c2, if_false] at e
      exact h.injP d n d' n' (by omega) hn (by omega) hn' e
/-- it is made -/
theorem NwB.done (h : NwB w n0 ab S S.dies ba bc db pb fa fc L) (h0 : 0 < S.dies) {F : List Ft} (hF : L.map (·.f) = F.map Ft.fresh) : NdAt w ab (Nd.new S F) (fun g => n0 ≤ g ∧ g < w.heap.size) := by
  rcases RowAt.form h.row with ⟨_, h1, _⟩ | ⟨bb, os, hba, hcap, hbb, hsz, htk⟩
  · omega
  · subst hba
    refine ⟨bb, bc, db, pb, fa, fc, L, h.blk, ⟨os, hbb, hcap, ?_⟩, h.die, ?_, h.fts, fun x hx => ⟨(h.bits x hx).1, fun g hg => ⟨(h.bits x hx).2 g hg, RowAt.lt (h.bits x hx).1 hg⟩⟩, hF, ⟨h.ownA, lt_of_heap h.blk⟩, ⟨h.ownB bb rfl, lt_of_heap hbb⟩, ?_, ?_, fun g hg => ⟨h.ownF g hg, RowAt.lt h.fts hg⟩, h.injD, h.injP, fun k hk => hk.2⟩
    · intro d hd
      simp only [Nd.new] at hd
      have : (os.toList.take (S.dies * 1))[d]? = (dieVs S db S.dies)[d]? := by rw [htk]
      rw [List.getElem?_take, if_pos (by omega)] at this
      rw [← Array.getElem?_toList, this]
      unfold dieVs
      simp [hd, Nd.new]
    · intro d n hd hn
      obtain ⟨ps, p1, p2, p3⟩ := h.pgs d n hd hn
      exact ⟨ps, p1, p2, fun p hp => p3 p hp⟩
    · intro d hd
      obtain ⟨cs, hcs, _⟩ := h.die d hd
      exact ⟨h.ownD d hd, lt_of_heap hcs⟩
    · intro d n hd hn
      obtain ⟨cs, hcs, _⟩ := h.pgs d n hd hn
      exact ⟨h.ownP d n hd hn, lt_of_heap hcs⟩
end Go.Proofs.Ytglpacdenfoicaa
