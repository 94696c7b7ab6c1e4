/- nand: New, its loop over the faults -/
import Derived.Test.YtglpacdenfoicaaNeB
import Derived.Test.YtglpacdenfoicaaNeD
import Derived.Test.YtglpacdenfoicaaNdS
import Derived.Deep.DeepCutAuto
namespace Go.Proofs.Ytglpacdenfoicaa
open Go.RowKit

def encF (x : Fx) : List Value := [.int .i64 x.f.kind, .int .i64 x.f.time, .int .i64 x.f.die, .int .i64 x.f.block, .int .i64 x.f.page, .int .i64 x.f.times, .int .i64 x.f.part, .slice x.a x.f.bits.length x.c]
structure FtsAt (w : World) (a : Option Addr) (L : List Fx) : Prop where
  cell : ∀ k x, L[k]? = some x → ∃ g off, a = some ⟨g, off, none⟩ ∧ ∀ j v, (encF x)[j]? = some v → w.cell? ⟨g, off + k * 8 + j, none⟩ = some v
  bits : ∀ x ∈ L, NumsAt .i64 w x.a x.f.bits ∧ (x.a = none → x.c = 0 ∧ x.f.bits.length = 0) ∧ x.f.bits.length * 8 ≤ 140737488351232
  wf : ∀ x ∈ L, x.f.part ≤ 9223372036854775807 ∧ x.f.times ≤ 9223372036854775807
def NwF (wr : World) (n0 ab : Nat) (S : Sh) (LA : List Fx) (k : Nat) : Prop := ∃ fa fc L, NwB wr n0 ab S 0 none 0 (fun _ => 0) (fun _ _ => 0) fa fc L ∧ L.map (·.f) = ((LA.take k).map (·.f)).map Ft.fresh ∧ ∀ x ∈ LA.take k, x.f.may S = true
theorem src_built (w : World) {l : List Value} {n : Nat} {E : TypeId} (hn : l.length = 1 * n) : Src (w.alloc (.cells l.toArray E)) (some ⟨w.heap.size, 0, none⟩) n 1 l := by
  refine ⟨hn, fun h => (by cases h), ?_⟩
  intro ad ha j u hu
  cases ha
  rw [Addr.add_lit, Nat.zero_add, cell_of_heap (heap_alloc_new w _) j]
  simpa using hu
def newsX (f : Ft) (a : Option Addr) (c : Nat) : List Value := [.int .i64 f.kind, .int .i64 f.time, .int .i64 f.die, .int .i64 f.block, .int .i64 f.page, .int .i64 f.times, .int .i64 f.part, .slice a f.bits.length c, .int .i64 f.times]
theorem newsX_one (f : Ft) (a : Option Addr) (c : Nat) : ∀ u ∈ newsX f a c, u.oneCell' = true := by
  intro u hu
  simp only [newsX, List.mem_cons, List.not_mem_nil, or_false] at hu
  rcases hu with h | h | h | h | h | h | h | h | h <;> subst h <;> rfl
def NwR (w wr : World) (ab : Nat) (S : Sh) (LA : List Fx) (k : Nat) : Prop := NwF wr w.heap.size ab S LA k ∧ Keeps Nil w wr ∧ wr.heap[w.heap.size]? = some (.cells (shCells S) 31 (0, 0))
theorem nwR_step {w wd w5 : World} {ab k : Nat} {S : Sh} {LA : List Fx} {x : Fx} {fa1 a' a5 : Option Addr} {fc1 cap' cap5 : Nat} {L1 : List Fx} (hB : NwB wd w.heap.size ab S 0 none 0 (fun _ => 0) (fun _ _ => 0) fa1 fc1 L1)
    (hm : L1.map (·.f) = ((LA.take k).map (·.f)).map Ft.fresh) (hy : ∀ y ∈ LA.take k, y.f.may S = true) (hx : LA[k]? = some x) (hv : x.f.may S = true) (hlen : L1.length = k)
    (hr5 : RowAt w5 78 9 a5 (k + 1) cap5 (recs encX L1 ++ newsX x.f a' cap')) (hk5 : Keeps (fun j => blk fa1 = some j) (wd.alloc (.cells (newsX x.f a' cap').toArray 78)).drew w5)
    (hb5 : blk a5 = blk fa1 ∨ blk a5 = some (wd.alloc (.cells (newsX x.f a' cap').toArray 78)).drew.heap.size ∧ (wd.alloc (.cells (newsX x.f a' cap').toArray 78)).drew.heap.size < w5.heap.size)
    (hrd : NumRow .i64 wd 3 a' cap' x.f.bits) (hna : ∀ g, blk a' = some g → w.heap.size ≤ g) (hkd : Keeps Nil w wd) (hsh : wd.heap[w.heap.size]? = some (.cells (shCells S) 31 (0, 0))) :
    NwR w (w5.setCell ⟨ab, 5, none⟩ (.slice a5 (k + 1) cap5)) ab S LA (k + 1) := by
  have k0 : Keeps Nil wd (wd.alloc (.cells (newsX x.f a' cap').toArray 78)).drew := ((Keeps.refl Nil wd).alloc _).drew
  generalize (wd.alloc (.cells (newsX x.f a' cap').toArray 78)).drew = wx at k0 hk5 hb5
  have hBx := hB.nil k0
  have hin : x.f.In S := by
    unfold Ft.may at hv
    rw [Bool.and_eq_true] at hv
    exact of_decide_eq_true hv.1
  have ht : ((x.f.times.toNat : Nat) : Int) = x.f.times := Int.toNat_of_nonneg hin.t2
  have hlk : k < LA.length := (List.getElem?_eq_some_iff.1 hx).1
  have htk : LA.take (k + 1) = LA.take k ++ [x] := by
    rw [List.take_add_one, hx]; rfl
  have hn : newsX x.f a' cap' = encX ⟨x.f.fresh, a', cap'⟩ := by
    unfold newsX encX Ft.fresh
    simp only [ht]
  rw [hn] at hr5
  have hr : RecRow encX 9 w5 78 a5 cap5 (L1 ++ [⟨x.f.fresh, a', cap'⟩]) := by
    unfold RecRow
    rw [recs_app, recs_one, List.length_append, hlen]
    exact hr5
  have hxr : NumRow .i64 wx 3 a' cap' x.f.bits := hrd.keeps k0 (fun _ _ h => h)
  have hx5 : NumRow .i64 w5 3 a' cap' x.f.bits := hxr.keeps hk5 (fun g hg e => by
    obtain ⟨c, hc⟩ := RowAt.heap hBx.fts e
    exact hxr.ne' hg hc (by decide) rfl)
  have hown5 : ∀ g, blk a5 = some g → w.heap.size ≤ g := fun g hg => by
    rcases hb5 with h | ⟨h, _⟩
    · exact hBx.ownF g (h ▸ hg)
    · rw [h] at hg; cases hg
      exact Nat.le_trans hkd.size k0.size
  have hA := hBx.addF hk5 hr hown5 hx5 hna
  rw [hlen] at hA
  refine ⟨⟨a5, cap5, _, hA, ?_, ?_⟩, ?_, ?_⟩
  · rw [htk, List.map_append, List.map_append, List.map_append, hm]; rfl
  · rw [htk]
    intro y hy2
    rcases List.mem_append.1 hy2 with h | h
    · exact hy y h
    · rw [List.mem_singleton] at h; subst h; exact hv
  · exact ((hkd.trans k0).trans' hk5 (fun j hj => .inr (hBx.ownF j hj))).setCell (p := ⟨ab, 5, none⟩) (.inr hBx.ownA) _
  · have hs5 := hk5.heap (k0.heap hsh (fun h => h)) (fun e => by
      obtain ⟨c, hc⟩ := RowAt.heap hBx.fts e
      exact cells_ne hc (k0.heap hsh (fun h => h)) (by decide) rfl)
    rw [heap_setCell_other]
    · exact hs5
    · exact cells_ne hs5 (hk5.heap hBx.blk (fun e => by
        obtain ⟨c, hc⟩ := RowAt.heap hBx.fts e
        exact cells_ne hc hBx.blk (by decide) rfl)) (by decide)
/-- what New answers -/
def NewOut (w : World) (S : Sh) (F : List Ft) (e : Ending) (w' : World) : Prop :=
  (F.all (·.may S) = true → ∃ ab O, e = .returned (.tuple #[.pointer (some ⟨ab, 0, none⟩), .int .i64 0]) ∧ NdAt w' ab (Nd.new S F) O ∧ Keeps Nil w w' ∧ ∀ k, O k → w.heap.size ≤ k) ∧
  (F.all (·.may S) = false → e = .returned (.tuple #[.pointer none, .int .i64 1]) ∧ Keeps Nil w w')
/-! the dies -/
def NwD (w wr : World) (ab : Nat) (S : Sh) (F : List Ft) (k : Nat) : Prop :=
  (∃ ba bc db pb fa fc L, NwB wr w.heap.size ab S k ba bc db pb fa fc L ∧ L.map (·.f) = F.map Ft.fresh) ∧ Keeps Nil w wr ∧ wr.heap[w.heap.size]? = some (.cells (shCells S) 31 (0, 0))
theorem NwR.die {w wr : World} {ab : Nat} {S : Sh} {LA : List Fx} (h : NwR w wr ab S LA LA.length) : NwD w wr ab S (LA.map (·.f)) 0 ∧ (LA.map (·.f)).all (·.may S) = true := by
  obtain ⟨⟨fa, fc, L, h1, h2, h3⟩, h4, h5⟩ := h
  rw [List.take_length] at h2 h3
  refine ⟨⟨⟨none, 0, _, _, fa, fc, L, h1, h2⟩, h4, h5⟩, ?_⟩
  rw [List.all_eq_true]
  intro f hf
  obtain ⟨x, hx, rfl⟩ := List.mem_map.1 hf
  exact h3 x hx
theorem nwD_step {w wr wd w5 : World} {ab k g : Nat} {S : Sh} {F : List Ft} {ba a5 fa : Option Addr} {bc cap5 fc : Nat} {db : Nat → Nat} {pb : Nat → Nat → Nat} {pk : Nat → Nat} {L : List Fx} {V : List Value} (hB : NwB wr w.heap.size ab S k ba bc db pb fa fc L)
    (hm : L.map (·.f) = F.map Ft.fresh) (hg : wr.heap.size = g) (hD : DieP wd g S S.blocks pk) (hkd : Keeps Nil wr wd)
    (hr5 : RowAt w5 79 1 a5 (k + 1) cap5 (dieVs S db k ++ [.slice (some ⟨g, 0, none⟩) S.blocks S.blocks])) (hk5 : Keeps (fun j => blk ba = some j) (wd.alloc (.cells V.toArray 79)) w5)
    (hb5 : blk a5 = blk ba ∨ blk a5 = some (wd.alloc (.cells V.toArray 79)).heap.size ∧ (wd.alloc (.cells V.toArray 79)).heap.size < w5.heap.size)
    (hkr : Keeps Nil w wr) (hsh : wr.heap[w.heap.size]? = some (.cells (shCells S) 31 (0, 0))) :
    NwD w (w5.setCell ⟨ab, 4, none⟩ (.slice a5 (k + 1) cap5)) ab S F (k + 1) := by
  have k1 : Keeps Nil wd (wd.alloc (.cells V.toArray 79)) := (Keeps.refl Nil wd).alloc _
  generalize (wd.alloc (.cells V.toArray 79)) = wx at k1 hk5 hb5
  have k0 := hkd.trans k1
  have hBx := hB.nil k0
  have hDx := hD.nil k1
  have hlt : ∀ d, d < k → db d < g := fun d hd => by
    obtain ⟨cs, hc, _⟩ := hB.die d hd
    rw [← hg]; exact lt_of_heap hc
  have hltp : ∀ d n, d < k → n < S.blocks → pb d n < g := fun d n hd hn => by
    obtain ⟨cs, hc, _⟩ := hB.pgs d n hd hn
    rw [← hg]; exact lt_of_heap hc
  have hT : ∀ j, blk ba = some j → ∃ c, wx.heap[j]? = some (.cells c 79 (0, 0)) := fun j hj => RowAt.heap hBx.row hj
  have hD5 : DieAt w5 S.blocks S.pages g pk (fun _ => bk0) := hDx.done.keeps hk5 (fun e => by
    obtain ⟨c, hc⟩ := hT _ e
    obtain ⟨⟨cs, hcs, _⟩, _⟩ := hDx
    exact cells_ne hcs hc (by decide) rfl)
  have hP5 : ∀ n, n < S.blocks → PgsAt w5 No S.pages (pk n) (fun _ => none) := fun n hn => (hDx.pgs n hn).none_keeps hk5 (fun e => by
    obtain ⟨c, hc⟩ := hT _ e
    obtain ⟨cs, hcs, _⟩ := hDx.pgs n hn
    exact cells_ne hcs hc (by decide) rfl)
  have hg0 : w.heap.size ≤ g := by rw [← hg]; exact hkr.size
  have hown5 : ∀ j, blk a5 = some j → w.heap.size ≤ j := fun j hj => by
    rcases hb5 with h | ⟨h, _⟩
    · exact hBx.ownB j (h ▸ hj)
    · rw [h] at hj; cases hj
      exact Nat.le_trans hkr.size k0.size
  have hA := hBx.addD (n1 := g) hk5 hr5 hown5 hD5 hP5 hg0 hg0 (fun d hd e => absurd (hlt d hd) (by omega)) (fun n hn => Nat.le_of_lt (hD.gt n hn)) hltp (fun n n' hn hn' e => hD.inj n n' hn hn' e)
  have hs5 := hk5.heap (k0.heap hsh (fun h => h)) (fun e => by
      obtain ⟨c, hc⟩ := hT _ e
      exact cells_ne hc (k0.heap hsh (fun h => h)) (by decide) rfl)
  refine ⟨⟨a5, cap5, _, _, fa, fc, L, hA, hm⟩, ((hkr.trans k0).trans' hk5 (fun j hj => .inr (hBx.ownB j hj))).setCell (p := ⟨ab, 4, none⟩) (.inr hBx.ownA) _, ?_⟩
  rw [heap_setCell_other]
  · exact hs5
  · exact cells_ne hs5 (hk5.heap hBx.blk (fun e => by
        obtain ⟨c, hc⟩ := hT _ e
        exact cells_ne hc hBx.blk (by decide) rfl)) (by decide)
end Go.Proofs.Ytglpacdenfoicaa
