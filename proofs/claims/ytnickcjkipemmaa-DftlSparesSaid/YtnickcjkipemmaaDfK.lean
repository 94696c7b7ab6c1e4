/- Set -/
import Derived.Test.YtnickcjkipemmaaDfI
import Derived.Test.YtnickcjkipemmaaDfJ
namespace Go.Proofs.Ytnickcjkipemmaa
open Go.RowKit

variable {w w' : World} {db pb cb : Nat} {keys most : Int} {D D' : Df} {O OL OP T : Nat → Prop}
set_option maxHeartbeats 2000000 in
set_option maxRecDepth 100000 in
theorem set51 (h : DfAt w db pb keys most D O) {mv xv : Nat} (x : Ent) (hm : w.cell? ⟨mv, 0, none⟩ = some (.pointer (some ⟨db, 0, none⟩)))
    (h0 : w.cell? ⟨xv, 0, none⟩ = some (.int .i64 x.key)) (h1 : w.cell? ⟨xv, 1, none⟩ = some (.int .u64 x.val)) (h2 : w.cell? ⟨xv, 2, none⟩ = some (.bool x.dirty))
    (hnd : (D.L.map (·.key)).Nodup) (hkr : ∀ e ∈ D.L, 0 ≤ e.key ∧ e.key < 4096) (hb : D.P.Lt 100000000) :
    Calls Try.prog 51 #[.pointer (some ⟨mv, 0, none⟩), .pointer (some ⟨xv, 0, none⟩)] w (DfOut w db pb keys most O (resE (D.put most x).1) (D.put most x).2) := by
  have hP := Lib.hid (dput_walk h x hnd hkr hb)
  clear h hnd hkr hb
  by_cases hc : (D.put most x).1 = 0
  · have hre : resE (D.put most x).1 = .returned (.tuple #[]) := if_pos hc
    rw [hre] at hP ⊢
    clear hre hc
    go_enter Try.func51, Try.ntmps51
    go_wp2_with fail
    refine (hP.out).mono ?_
    rintro e w2 ⟨rfl, hE⟩
    go_wp2_with fail
    go_end0
    exact ⟨rfl, hE⟩
  · have hre : resE (D.put most x).1 = tornE (D.put most x).1 := if_neg hc
    rw [hre] at hP ⊢
    clear hre hc
    go_enter Try.func51, Try.ntmps51
    go_wp2_with fail
    refine (hP.out).mono ?_
    rintro e w2 ⟨rfl, hE⟩
    exact ⟨rfl, rfl, hE⟩
theorem set_arg (h : DfAt w db pb keys most D O) (k n : Int) (hk : k < 0 ∨ keys ≤ k) :
    Calls Try.prog 31 #[.pointer (some ⟨db, 0, none⟩), .int .i64 k, .int .u64 n] w fun e w' => e = .returned (.int .i64 1) ∧ Keeps Nil w w' := by
  obtain ⟨cb, OL, OP, h, rfl⟩ := h
  have hdb := lt_of_heap h.blk
  have c1 : w.cell? ⟨db, 1, none⟩ = some (.int .i64 keys) := cell_of_heap h.blk 1
  have hc : (k < 0) ∨ (¬ k < 0 ∧ keys ≤ k) := by omega
  clear h hk
  rcases hc with hc | ⟨hc, hc2⟩
  · go_enter Try.func31, Try.ntmps31
    go_wp2_with fail
    go_ret
    exact ⟨rfl, (Keeps.refl Nil w).alloc _⟩
  · have hk0 : 0 ≤ k := by omega
    go_enter Try.func31, Try.ntmps31
    go_wp2_with fail
    go_ret
    exact ⟨rfl, (Keeps.refl Nil w).alloc _⟩
/-- a step of the cache -/
theorem DfB.cache {wr w5 : World} {L' : List Ent} {O5 : Nat → Prop} (h : DfB wr db pb cb keys most D OL OP) (hL : LruX w5 cb most L' O5) (hk : Keeps OL wr w5) (hg : Grow OL O5 wr w5) (hl : (L'.length : Int) ≤ most) :
    DfB w5 db pb cb keys most ⟨D.P, L'⟩ O5 OP ∧ Keeps (down db OL OP) wr w5 ∧ Grow (down db OL OP) (down db O5 OP) wr w5 := by
  have ndb : ¬ O5 db := fun ho => (hg db ho).elim h.ndl (fun e => by have := lt_of_heap h.blk; omega)
  refine ⟨⟨hk.heap h.blk h.ndl, hL, h.pg.keeps hk (fun k hk2 ho => h.dis k ho hk2), ndb, h.ndp, fun k hk2 hp => ?_, hl, h.most1, h.keys1⟩, hk.mono (fun j hj => .inr (.inl hj)), fun k hk2 => ?_⟩
  · rcases hg k hk2 with h4 | h4
    · exact h.dis k h4 hp
    · have := h.pg.lt k hp; omega
  · rcases hk2 with h4 | h4 | h4
    · exact .inl (.inl h4)
    · exact (hg k h4).imp (fun h => .inr (.inl h)) (fun h => h)
    · exact .inl (.inr (.inr h4))
theorem Grow.trans {A B C : Nat → Prop} {a b c : World} (h1 : Grow A B a b) (h2 : Grow B C b c) (hab : a.heap.size ≤ b.heap.size) (hbc : b.heap.size ≤ c.heap.size) : Grow A C a c := fun k hk => by
  rcases h2 k hk with h | h
  · exact (h1 k h).imp (fun h => h) (fun h => ⟨h.1, by omega⟩)
  · exact .inr ⟨by omega, h.2⟩
theorem lfront_len {k : Int} {L : List Ent} : (lfront k L).length = L.length := (lfront_perm (k := k) (L := L)).length_eq
set_option maxHeartbeats 4000000 in
set_option maxRecDepth 100000 in
theorem set_hit (h : DfAt w db pb keys most D O) (k n : Int) (hk0 : 0 ≤ k) (hk1 : k < keys) (hh : lhas k D.L = true) :
    Calls Try.prog 31 #[.pointer (some ⟨db, 0, none⟩), .int .i64 k, .int .u64 n] w (DfOut w db pb keys most O (.returned (.int .i64 0)) ⟨D.P, lput most ⟨k, n, true⟩ (lfront k D.L)⟩) := by
  obtain ⟨cb, OL, OP, h, rfl⟩ := h
  have hdb := lt_of_heap h.blk
  have c1 : w.cell? ⟨db, 1, none⟩ = some (.int .i64 keys) := cell_of_heap h.blk 1
  have c4 : w.cell? ⟨db, 4, none⟩ = some (.pointer (some ⟨cb, 0, none⟩)) := cell_of_heap h.blk 4
  obtain ⟨W1, hW1⟩ : ∃ W1, (w.alloc (.cells #[.pointer (some ⟨db, 0, none⟩)] 63)).alloc (.cells #[.int .i64 k, .int .u64 n, .bool true] 32) = W1 := ⟨_, rfl⟩
  have s1 : Keeps Nil w W1 := by rw [← hW1]; exact ((Keeps.refl Nil w).alloc _).alloc _
  have x0 : W1.cell? ⟨w.heap.size, 0, none⟩ = some (.pointer (some ⟨db, 0, none⟩)) := by rw [← hW1]; simp [go_sem]
  have x1 : W1.cell? ⟨w.heap.size + 1, 0, none⟩ = some (.int .i64 k) := by rw [← hW1]; simp [go_sem]
  have x2 : W1.cell? ⟨w.heap.size + 1, 1, none⟩ = some (.int .u64 n) := by rw [← hW1]; simp [go_sem]
  have x3 : W1.cell? ⟨w.heap.size + 1, 2, none⟩ = some (.bool true) := by rw [← hW1]; simp [go_sem]
  have hB1 := h.keeps s1 (fun _ _ h => h)
  have hG := Lib.hid (getX hB1.lru k)
  rw [hh] at hG
  have hlt := Lib.hid (fun k (hk : down db OL OP k) => h.lt hk)
  have hB1' := Lib.hid hB1
  have s1' := Lib.hid s1
  have hX1 := Lib.hid (And.intro x0 (And.intro x1 (And.intro x2 x3)))
  have hW1' := Lib.hid hW1
  clear h hB1 s1 hW1 x0 x1 x2 x3 hh
  go_enter Try.func31, Try.ntmps31
  go_wp2_with fail
  rw [hW1'.out]
  refine (hG.out).mono ?_
  rintro e w2 ⟨rfl, O2, hL2, hk2, hg2⟩
  obtain ⟨hB2, hK2, hG2⟩ := hB1'.out.cache hL2 hk2 hg2 (by rw [lfront_len]; exact hB1'.out.len)
  have ho1 : ¬ OL w.heap.size := fun h => by have := hlt.out _ (.inr (.inl h)); omega
  have ho2 : ¬ OL (w.heap.size + 1) := fun h => by have := hlt.out _ (.inr (.inl h)); omega
  have hsz : w.heap.size + 1 < W1.heap.size := lt_of_cell hX1.out.2.1
  have ho3 : ¬ O2 w.heap.size := fun h => (hg2 _ h).elim ho1 (fun e => by omega)
  have ho4 : ¬ O2 (w.heap.size + 1) := fun h => (hg2 _ h).elim ho2 (fun e => by omega)
  have y0 := hk2.cell hX1.out.1 ho1
  have y1 := hk2.cell hX1.out.2.1 ho2
  have y2 := hk2.cell hX1.out.2.2.1 ho2
  have y3 := hk2.cell hX1.out.2.2.2 ho2
  have cdb : w2.cell? ⟨db, 4, none⟩ = some (.pointer (some ⟨cb, 0, none⟩)) := cell_of_heap hB2.blk 4
  have hPut := Lib.hid (putX' (hB2.lru.nil ((Keeps.refl Nil w2).drew)) ⟨k, n, true⟩ hB2.len hB2.most1.1)
  have hT := Lib.hid (show ∀ W, Keeps O2 w2.drew W → W.cell? ⟨db, 4, none⟩ = some (.pointer (some ⟨cb, 0, none⟩)) ∧ W.cell? ⟨w.heap.size, 0, none⟩ = some (.pointer (some ⟨db, 0, none⟩)) ∧ W.cell? ⟨w.heap.size + 1, 0, none⟩ = some (.int .i64 k) ∧ W.cell? ⟨w.heap.size + 1, 1, none⟩ = some (.int .u64 n) ∧ W.cell? ⟨w.heap.size + 1, 2, none⟩ = some (.bool true) from
    fun W hW => ⟨hW.cell cdb hB2.ndl, hW.cell y0 ho3, hW.cell y1 ho4, hW.cell y2 ho4, hW.cell y3 ho4⟩)
  have hB2' := Lib.hid hB2
  have hK2' := Lib.hid hK2
  have hG2' := Lib.hid hG2
  clear hB2 hK2 hG2 hL2 hk2 hg2 ho1 ho2 ho3 ho4 hsz
  go_wp2_with fail
  go_region_held3 (fun W => W.cell? ⟨db, 4, none⟩ = some (.pointer (some ⟨cb, 0, none⟩)) ∧ W.cell? ⟨w.heap.size, 0, none⟩ = some (.pointer (some ⟨db, 0, none⟩)) ∧ W.cell? ⟨w.heap.size + 1, 0, none⟩ = some (.int .i64 k) ∧ W.cell? ⟨w.heap.size + 1, 1, none⟩ = some (.int .u64 n) ∧ W.cell? ⟨w.heap.size + 1, 2, none⟩ = some (.bool true)) (first | exact ⟨cdb, y0, y1, y2, y3⟩ | exact hT.out _ (Keeps.refl _ _) | exact hT.out _ hk5'.out) ((go_at_call 15; refine (hPut.out).mono ?_; rintro e w5 ⟨rfl, O5, hL5, hk5, hg5⟩; have hk5' := Lib.hid hk5; have hL5' := Lib.hid hL5; have hg5' := Lib.hid hg5; clear hk5 hL5 hg5))
  go_wp2_with fail
  go_ret
  obtain ⟨hB5, hK5, hG5⟩ := (hB2'.out.keeps ((Keeps.refl Nil w2).drew) (fun _ _ h => h)).cache hL5'.out hk5'.out hg5'.out (lput_length hB2'.out.most1.1 hB2'.out.len)
  have hKa := ((s1'.out.mono (fun _ h => h.elim)).trans hK2'.out).drew
  have hGa : Grow (down db OL OP) (down db O2 OP) w w2.drew := fun k hk => (hG2'.out k hk).imp (fun h => h) (fun h => ⟨Nat.le_trans s1'.out.size h.1, h.2⟩)
  exact ⟨rfl, _, ⟨cb, O5, OP, hB5, rfl⟩, hKa.trans' hK5 (fun j hj => (hGa j hj).imp (fun h => h) (fun h => h.1)), hGa.trans hG5 hKa.size hK5.size⟩
end Go.Proofs.Ytnickcjkipemmaa
