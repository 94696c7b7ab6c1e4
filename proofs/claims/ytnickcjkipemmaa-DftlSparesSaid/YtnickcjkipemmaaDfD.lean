/- a map whose pages lie elsewhere, in memory; load -/
import Derived.Test.YtnickcjkipemmaaDfC
namespace Go.Proofs.Ytnickcjkipemmaa
open Go.RowKit

def dfCells (keys : Int) (per : Nat) (most : Int) (pb cb loads stores : Nat) : Array Value :=
  #[.iface 61 (.pointer (some ⟨pb, 0, none⟩)), .int .i64 keys, .int .i64 per, .int .i64 most, .pointer (some ⟨cb, 0, none⟩), .int .i64 loads, .int .i64 stores]
/-- the map's own blocks -/
def down (db : Nat) (OL OP : Nat → Prop) (k : Nat) : Prop := k = db ∨ OL k ∨ OP k
structure DfB (w : World) (db pb cb : Nat) (keys most : Int) (D : Df) (OL OP : Nat → Prop) : Prop where
  blk : w.heap[db]? = some (.cells (dfCells keys D.P.per most pb cb D.P.loads D.P.stores) 102 (0, 0))
  lru : LruX w cb most D.L OL
  pg : PgAt w pb D.P OP
  ndl : ¬ OL db
  ndp : ¬ OP db
  dis : ∀ k, OL k → ¬ OP k
  len : (D.L.length : Int) ≤ most
  most1 : 1 ≤ most ∧ most ≤ 1000
  keys1 : 1 ≤ keys ∧ keys ≤ 4096
def DfAt (w : World) (db pb : Nat) (keys most : Int) (D : Df) (O : Nat → Prop) : Prop := ∃ cb OL OP, DfB w db pb cb keys most D OL OP ∧ O = down db OL OP
def torn (c : Int) : Value := .iface 112 (.agg #[.int .i64 c])
def tornE (c : Int) : Ending := .panicked [{ v := torn c, recovered := false }]
def DfOut (w : World) (db pb : Nat) (keys most : Int) (O : Nat → Prop) (r : Ending) (D' : Df) (e : Ending) (w' : World) : Prop :=
  e = r ∧ ∃ O', DfAt w' db pb keys most D' O' ∧ Keeps O w w' ∧ Grow O O' w w'

variable {P : Pg} {w w' : World} {db pb cb : Nat} {keys most : Int} {D D' : Df} {O OL OP T : Nat → Prop}
theorem PgAt.per (h : PgAt w pb P O) : 1 ≤ P.per ∧ P.per ≤ 1024 := by obtain ⟨_, _, _, _, h⟩ := h; exact h.per
theorem PgAt.len (h : PgAt w pb P O) (n : Int) : (P.pages n).length = P.per := by obtain ⟨_, _, _, _, h⟩ := h; exact h.len n
theorem DfB.lt (h : DfB w db pb cb keys most D OL OP) {k : Nat} (hk : down db OL OP k) : k < w.heap.size := by
  rcases hk with rfl | hk | hk
  · exact lt_of_heap h.blk
  · exact h.lru.lt hk
  · exact h.pg.lt k hk
theorem DfB.keeps (h : DfB w db pb cb keys most D OL OP) (hk : Keeps T w w') (hn : ∀ k, down db OL OP k → ¬ T k) : DfB w' db pb cb keys most D OL OP :=
  ⟨hk.heap h.blk (hn _ (.inl rfl)), h.lru.keeps hk (fun k hk => hn k (.inr (.inl hk))), h.pg.keeps hk (fun k hk => hn k (.inr (.inr hk))), h.ndl, h.ndp, h.dis, h.len, h.most1, h.keys1⟩
theorem DfAt.keeps (h : DfAt w db pb keys most D O) (hk : Keeps T w w') (hn : ∀ k, O k → ¬ T k) : DfAt w' db pb keys most D O := by
  obtain ⟨cb, OL, OP, h, rfl⟩ := h
  exact ⟨cb, OL, OP, h.keeps hk hn, rfl⟩
theorem DfAt.lt (h : DfAt w db pb keys most D O) {k : Nat} (hk : O k) : k < w.heap.size := by
  obtain ⟨cb, OL, OP, h, rfl⟩ := h
  exact h.lt hk

theorem meth_load (a : Addr) (w : World) : (method 253 61 (.pointer (some a)) "Load").run Try.prog w = .ok (95, .pointer (some a)) w := by kernel_rfl
theorem meth_store (a : Addr) (w : World) : (method 253 61 (.pointer (some a)) "Store").run Try.prog w = .ok (96, .pointer (some a)) w := by kernel_rfl
theorem DfB.loaded {w2 : World} (h : DfB w db pb cb keys most D OL OP) (hP : PgAt w2 pb D.P.loaded OP) (hk2 : Keeps OP (w.setCell ⟨db, 5, none⟩ (.int .i64 ((D.P.loads : Int) + 1))) w2) :
    DfB w2 db pb cb keys most D.loaded OL OP ∧ Keeps (down db OL OP) w w2 := by
  have hk1 := (Keeps.refl (· = db) w).setCell (p := ⟨db, 5, none⟩) (.inl rfl) (.int .i64 ((D.P.loads : Int) + 1))
  refine ⟨⟨?_, (h.lru.keeps hk1 (fun k hk e => h.ndl (by rw [← e]; exact hk))).keeps hk2 h.dis, hP, h.ndl, h.ndp, h.dis, h.len, h.most1, h.keys1⟩, (hk1.mono (fun j hj => .inl hj)).trans (hk2.mono (fun j hj => .inr (.inr hj)))⟩
  have := hk2.heap (heap_setCell_same h.blk 5 (.int .i64 ((D.P.loads : Int) + 1))) h.ndp
  rw [this]
  rfl
set_option maxHeartbeats 2000000 in
set_option maxRecDepth 100000 in
theorem dload_bad (h : DfAt w db pb keys most D O) (n : Int) (hb : D.P.Lt 100000000) (hf : D.P.fails = true) :
    Calls Try.prog 54 #[.pointer (some ⟨db, 0, none⟩), .int .i64 n] w (DfOut w db pb keys most O (tornE 200) D.loaded) := by
  obtain ⟨cb, OL, OP, h, rfl⟩ := h
  have c5 : w.cell? ⟨db, 5, none⟩ = some (.int .i64 (D.P.loads : Nat)) := cell_of_heap h.blk 5
  have f0 := frozen_of_heap h.blk
  have hbl := hb.loads
  have hk1 := (Keeps.refl (· = db) w).setCell (p := ⟨db, 5, none⟩) (.inl rfl) (.int .i64 ((D.P.loads : Int) + 1))
  have c0 : (w.setCell ⟨db, 5, none⟩ (.int .i64 ((D.P.loads : Int) + 1))).cell? ⟨db, 0, none⟩ = some (.iface 61 (.pointer (some ⟨pb, 0, none⟩))) := by
    rw [cell_of_heap (heap_setCell_same h.blk _ _)]; rfl
  have hL := Lib.hid (load_bad (h.pg.keeps hk1 (fun k hk e => h.ndp (by rw [← e]; exact hk))) n (hb.mono (by decide)) hf)
  have h' := Lib.hid h
  have hml := meth_load
  clear h hk1 hb hf
  go_enter Try.func54, Try.ntmps54
  go_wp2_with fail
  refine (hL.out).mono ?_
  rintro e w2 ⟨rfl, hP, hk2⟩
  go_wp2_with fail
  obtain ⟨h1, h2⟩ := h'.out.loaded hP hk2
  exact ⟨rfl, rfl, _, ⟨cb, OL, OP, h1, rfl⟩, h2, fun k hk => .inl hk⟩


def DLoadOut (w : World) (db pb : Nat) (keys most : Int) (D : Df) (n : Int) (O : Nat → Prop) (e : Ending) (w' : World) : Prop :=
  ∃ g, e = .returned (.slice (some ⟨g, 0, none⟩) D.P.per D.P.per) ∧ NumB w' g (D.P.pages n) ∧ w.heap.size ≤ g ∧ DfAt w' db pb keys most D.loaded O ∧ Keeps O w w'
set_option maxHeartbeats 2000000 in
set_option maxRecDepth 100000 in
theorem dload_ok (h : DfAt w db pb keys most D O) (n : Int) (hb : D.P.Lt 100000000) (hf : D.P.fails = false) :
    Calls Try.prog 54 #[.pointer (some ⟨db, 0, none⟩), .int .i64 n] w (DLoadOut w db pb keys most D n O) := by
  obtain ⟨cb, OL, OP, h, rfl⟩ := h
  obtain ⟨i30, hi, hz0, hz1, hz2⟩ := info_parts Try.info30n
  have hper := h.pg.per
  have hlen := h.pg.len n
  have hmk := Lib.hid (fun W => run_make1 (P := Try.prog) W 67 30 i30 (.int .u64 0) 8 Try.underlying67 hi hz0 hz1 hz2 rfl .i64 .i64 D.P.per (by omega) (by omega))
  have c5 : w.cell? ⟨db, 5, none⟩ = some (.int .i64 (D.P.loads : Nat)) := cell_of_heap h.blk 5
  have f0 := frozen_of_heap h.blk
  have hbl := hb.loads
  have hk1 := (Keeps.refl (· = db) w).setCell (p := ⟨db, 5, none⟩) (.inl rfl) (.int .i64 ((D.P.loads : Int) + 1))
  have c0 : (w.setCell ⟨db, 5, none⟩ (.int .i64 ((D.P.loads : Int) + 1))).cell? ⟨db, 0, none⟩ = some (.iface 61 (.pointer (some ⟨pb, 0, none⟩))) := by
    rw [cell_of_heap (heap_setCell_same h.blk _ _)]; rfl
  have hL := Lib.hid (load_ok (h.pg.keeps hk1 (fun k hk e => h.ndp (by rw [← e]; exact hk))) n (hb.mono (by decide)) hf)
  have h' := Lib.hid h
  have hml := meth_load
  clear h hk1 hb hf
  go_enter Try.func54, Try.ntmps54
  go_wp2_with fail
  refine (hL.out).mono ?_
  rintro e w2 ⟨g, rfl, hN, hg, hP, hk2⟩
  obtain ⟨h1, h2⟩ := h'.out.loaded hP hk2
  have c2 : w2.cell? ⟨db, 2, none⟩ = some (.int .i64 (D.P.per : Nat)) := cell_of_heap h1.blk 2
  have hE := Lib.hid (show DfAt w2 db pb keys most D.loaded (down db OL OP) ∧ Keeps (down db OL OP) w w2 from ⟨⟨cb, OL, OP, h1, rfl⟩, h2⟩)
  have hm2 := hmk.out w2
  have hsrc := Lib.hid (hN.src hlen)
  clear h1 h2 hN hP hk2
  go_wp2_with (refine wpList_cpy _ rfl _ _ 67 67 rfl 30 Try.underlying67 size30 w2.heap.size 0 D.P.per D.P.per (some ⟨g, 0, none⟩) D.P.per D.P.per rfl rfl (List.replicate D.P.per (.int .u64 0)) 30 (ncells (D.P.pages n)) ?_ (by exact heap_alloc_new w2 _) (by exact hsrc.out.keeps ((Keeps.refl Nil w2).alloc _)) (by simp) (ncells_one _); intro w3 hh3 hk3)
  go_ret
  have hk := ((Keeps.refl Nil w2).alloc _).trans' hk3 (fun j hj => .inr (by rw [hj]; exact Nat.le_refl _))
  refine ⟨w2.heap.size, rfl, ?_, hE.out.2.size, hE.out.1.keeps hk (fun _ _ h => h), hE.out.2.trans (hk.mono (fun _ h => h.elim))⟩
  unfold NumB
  rw [hh3, show List.take D.P.per (ncells (D.P.pages n)) = ncells (D.P.pages n) from List.take_of_length_le (by rw [ncells_len, hlen]; exact Nat.le_refl _)]
  simp [splice, ncells_len, hlen]
end Go.Proofs.Ytnickcjkipemmaa
