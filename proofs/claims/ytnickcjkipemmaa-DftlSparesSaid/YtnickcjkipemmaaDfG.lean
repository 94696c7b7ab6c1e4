/- put, changed -/
import Derived.Test.YtnickcjkipemmaaDfF
import Derived.RegionDies
namespace Go.Proofs.Ytnickcjkipemmaa
open Go.RowKit

/-- how a call ends that throws a number, 0: none -/
def resE (c : Int) : Ending := if c = 0 then .returned (.tuple #[]) else tornE c
variable {w w' : World} {db pb cb : Nat} {keys most : Int} {D D' : Df} {O OL OP T : Nat → Prop}
theorem dstore_any (h : DfAt w db pb keys most D O) (n : Int) (hn0 : 0 ≤ n) (hn1 : n ≤ 4096) (hnd : (D.L.map (·.key)).Nodup) (hb : D.P.Lt 100000000) :
    Calls Try.prog 57 #[.pointer (some ⟨db, 0, none⟩), .int .i64 n] w (DfOut w db pb keys most O (resE (D.store n).1) (D.store n).2) := by
  unfold Df.store
  by_cases h1 : D.P.fails = true
  · simp only [if_pos h1]
    exact dstore_load h n hb h1
  · simp only [if_neg h1]
    have := dstore_walk h n hn0 hn1 hnd hb (by simpa using h1)
    by_cases h2 : D.P.loaded.fails = true
    · simp only [if_pos h2] at this ⊢
      exact this
    · simp only [if_neg h2] at this ⊢
      exact this
theorem DfB.put_end {wr w5 : World} {x : Ent} {w0 : World} {O0 O5 : Nat → Prop} (h : DfB wr db pb cb keys most D OL OP) (h0 : Keeps O0 w0 wr) (hg : Grow O0 (down db OL OP) w0 wr)
    (hL : LruX w5 cb most (lput most x D.L) O5) (hk : Keeps OL wr.drew w5) (hgr : Grow OL O5 wr.drew w5) : DfOut w0 db pb keys most O0 (.returned (.tuple #[])) (D.ins most x) (.returned (.tuple #[])) w5 := by
  have hs := h0.size
  have hs2 : wr.drew.heap.size = wr.heap.size := rfl
  have hs3 := hk.size
  have ndb : ¬ O5 db := fun ho => (hgr db ho).elim h.ndl (fun e => by have := lt_of_heap h.blk; omega)
  refine ⟨rfl, down db O5 OP, ⟨cb, O5, OP, ⟨hk.heap (((Keeps.refl Nil wr).drew).heap h.blk (fun h => h)) h.ndl, hL, (h.pg.keeps ((Keeps.refl Nil wr).drew) (fun _ _ h => h)).keeps hk (fun k hk2 ho => h.dis k ho hk2), ndb, h.ndp, fun k hk2 hp => ?_, lput_length h.most1.1 h.len, h.most1, h.keys1⟩, rfl⟩, ?_, fun k hk2 => ?_⟩
  · rcases hgr k hk2 with h4 | h4
    · exact h.dis k h4 hp
    · have := h.pg.lt k hp; omega
  · exact (h0.drew).trans' hk (fun j hj => (hg j (.inr (.inl hj))).imp (fun h => h) (fun h => h.1))
  · rcases hk2 with h4 | h4 | h4
    · exact (hg k (.inl h4)).imp (fun h => h) (fun h => ⟨h.1, by omega⟩)
    · rcases hgr k h4 with h5 | h5
      · exact (hg k (.inr (.inl h5))).imp (fun h => h) (fun h => ⟨h.1, by omega⟩)
      · exact .inr ⟨by omega, h5.2⟩
    · exact (hg k (.inr (.inr h4))).imp (fun h => h) (fun h => ⟨h.1, by omega⟩)
theorem DfAt.lenB (h : DfAt w db pb keys most D O) : (D.L.length : Int) ≤ most ∧ 1 ≤ most ∧ most ≤ 1000 ∧ 1 ≤ keys ∧ keys ≤ 4096 ∧ 1 ≤ D.P.per ∧ D.P.per ≤ 1024 := by
  obtain ⟨_, _, _, h, _⟩ := h
  exact ⟨h.len, h.most1.1, h.most1.2, h.keys1.1, h.keys1.2, h.pg.per.1, h.pg.per.2⟩
theorem store_per (D : Df) (n : Int) : (D.store n).2.P.per = D.P.per := by
  unfold Df.store
  split
  · rfl
  · split <;> rfl
theorem DfAt.c2 (h : DfAt w db pb keys most D O) : w.cell? ⟨db, 2, none⟩ = some (.int .i64 (D.P.per : Nat)) := by
  obtain ⟨_, _, _, h, _⟩ := h
  exact cell_of_heap h.blk 2
set_option maxHeartbeats 4000000 in
set_option maxRecDepth 100000 in
theorem dput_walk (h : DfAt w db pb keys most D O) (x : Ent) (hnd : (D.L.map (·.key)).Nodup) (hkr : ∀ e ∈ D.L, 0 ≤ e.key ∧ e.key < 4096) (hb : D.P.Lt 100000000) :
    Calls Try.prog 52 #[.pointer (some ⟨db, 0, none⟩), .agg #[.int .i64 x.key, .int .u64 x.val, .bool x.dirty]] w (DfOut w db pb keys most O (resE (D.put most x).1) (D.put most x).2) := by
  obtain ⟨hln, hm1, hm2, _, _, hp1, hp2⟩ := h.lenB
  obtain ⟨W0, hW0⟩ : ∃ W0, w.alloc (.cells #[.int .i64 x.key, .int .u64 x.val, .bool x.dirty] 32) = W0 := ⟨_, rfl⟩
  have s0 : Keeps Nil w W0 := by rw [← hW0]; exact (Keeps.refl Nil w).alloc _
  have hX0 := Lib.hid (show W0.cell? ⟨w.heap.size, 0, none⟩ = some (.int .i64 x.key) ∧ W0.cell? ⟨w.heap.size, 1, none⟩ = some (.int .u64 x.val) ∧ W0.cell? ⟨w.heap.size, 2, none⟩ = some (.bool x.dirty) by rw [← hW0]; refine ⟨?_, ?_, ?_⟩ <;> simp [go_sem])
  have hOlt := Lib.hid (fun k (hk : O k) => h.lt hk)
  obtain ⟨cb, OL, OP, h, rfl⟩ := h
  have hB0 := h.keeps s0 (fun _ _ h => h)
  have c4 : W0.cell? ⟨db, 4, none⟩ = some (.pointer (some ⟨cb, 0, none⟩)) := cell_of_heap hB0.blk 4
  have hA := Lib.hid (allX hB0.lru (by omega))
  have hB0' := Lib.hid hB0
  have s0' := Lib.hid s0
  have hW0' := Lib.hid hW0
  have hnd' := Lib.hid hnd
  have hkr' := Lib.hid hkr
  have hb' := Lib.hid hb
  clear h hB0 s0 hW0 hnd hkr hb
  go_enter Try.func52, Try.ntmps52
  rw [← hW0'.out] at c4
  go_wp2_with fail
  rw [hW0'.out]
  refine (hA.out).mono ?_
  rintro e w2 ⟨v, rfl, a, cap, rfl, hrow, hk2, hge⟩
  have hB2 := Lib.hid (hB0'.out.keeps hk2 (fun _ _ h => h))
  have hX2 := Lib.hid (show w2.cell? ⟨w.heap.size, 0, none⟩ = some (.int .i64 x.key) ∧ w2.cell? ⟨w.heap.size, 1, none⟩ = some (.int .u64 x.val) ∧ w2.cell? ⟨w.heap.size, 2, none⟩ = some (.bool x.dirty) from ⟨hk2.cell hX0.out.1 (fun h => h), hk2.cell hX0.out.2.1 (fun h => h), hk2.cell hX0.out.2.2 (fun h => h)⟩)
  have hK2 := Lib.hid (s0'.out.trans hk2)
  have hKW := Lib.hid hk2
  have c3 : w2.cell? ⟨db, 3, none⟩ = some (.int .i64 most) := cell_of_heap hB2.out.blk 3
  have hrow' := Lib.hid hrow
  clear hrow hk2 hge hA c4
  by_cases hlen : (D.L.length : Int) = most
  · have e1 : ((D.L.length : Int) == most) = true := by simpa using hlen
    obtain ⟨q, hq⟩ : ∃ q : Nat, D.L.length = q + 1 := ⟨D.L.length - 1, by omega⟩
    obtain ⟨y, hy⟩ : ∃ y, D.L.getLastD ent0 = y := ⟨_, rfl⟩
    obtain ⟨g, rfl, hent⟩ := EntRow.at' hrow'.out (show q < D.L.length by omega)
    have hyq : D.L.getD q ent0 = y := by
      rw [← hy, List.getLastD_eq_getLast?, List.getLast?_eq_getElem?, hq]; rfl
    rw [hyq] at hent
    have hym : y ∈ D.L := by rw [← hyq, List.getD_eq_getElem?_getD, List.getElem?_eq_getElem (by omega)]; exact List.getElem_mem _
    have hy2 := hkr'.out y hym
    have d0 : w2.cell? ⟨g, q * 3, none⟩ = some (.int .i64 y.key) := hent.key
    have d1 : w2.cell? ⟨g, q * 3 + 1, none⟩ = some (.int .u64 y.val) := hent.val
    have d2 : w2.cell? ⟨g, q * 3 + 2, none⟩ = some (.bool y.dirty) := hent.dirty
    have hmust : D.must most = y.dirty := by unfold Df.must; rw [hy, decide_eq_true hlen, Bool.true_and]
    have hy' := Lib.hid hy
    have hmust' := Lib.hid hmust
    have hlen' := Lib.hid hlen
    have hq' := Lib.hid hq
    rw [hq] at e1 ⊢
    have hq3 : q ≤ 1000 := by omega
    clear hent hyq hym hy hmust hlen hq hln
    cases hyd : y.dirty with
    | false =>
      rw [hyd] at d2 hmust'
      have hput : D.put most x = (0, D.ins most x) := by unfold Df.put; rw [hmust'.out]; rfl
      have hput' := Lib.hid hput
      clear hput
      obtain ⟨W3, hW3⟩ : ∃ W3, w2.alloc (.cells #[.int .i64 y.key, .int .u64 y.val, .bool false] 32) = W3 := ⟨_, rfl⟩
      have s3 : Keeps Nil w2 W3 := by rw [← hW3]; exact (Keeps.refl Nil w2).alloc _
      have s3' := Lib.hid s3
      have hW3' := Lib.hid hW3
      have hX3 := Lib.hid (show W3.cell? ⟨w.heap.size, 0, none⟩ = some (.int .i64 x.key) ∧ W3.cell? ⟨w.heap.size, 1, none⟩ = some (.int .u64 x.val) ∧ W3.cell? ⟨w.heap.size, 2, none⟩ = some (.bool x.dirty) from ⟨s3.cell hX2.out.1 (fun h => h), s3.cell hX2.out.2.1 (fun h => h), s3.cell hX2.out.2.2 (fun h => h)⟩)
      clear s3 hW3
      go_wp2_with fail
      rw [hW3'.out]
      have hB1 := hB2.out.keeps s3'.out (fun _ _ h => h)
      have cdb : W3.cell? ⟨db, 4, none⟩ = some (.pointer (some ⟨cb, 0, none⟩)) := cell_of_heap hB1.blk 4
      have v0 : W3.cell? ⟨w.heap.size, 0, none⟩ = some (.int .i64 x.key) := hX3.out.1
      have v1 : W3.cell? ⟨w.heap.size, 1, none⟩ = some (.int .u64 x.val) := hX3.out.2.1
      have v2 : W3.cell? ⟨w.heap.size, 2, none⟩ = some (.bool x.dirty) := hX3.out.2.2
      have hPut := Lib.hid (putX' (hB1.lru.nil ((Keeps.refl Nil W3).drew)) x hB1.len hB1.most1.1)
      have hno : ¬ OL w.heap.size := fun h => by have := hOlt.out _ (.inr (.inl h)); omega
      have hT := Lib.hid (show ∀ W, Keeps OL W3.drew W → W.cell? ⟨db, 4, none⟩ = some (.pointer (some ⟨cb, 0, none⟩)) ∧ W.cell? ⟨w.heap.size, 0, none⟩ = some (.int .i64 x.key) ∧ W.cell? ⟨w.heap.size, 1, none⟩ = some (.int .u64 x.val) ∧ W.cell? ⟨w.heap.size, 2, none⟩ = some (.bool x.dirty) from
        fun W hW => ⟨hW.cell cdb hB1.ndl, hW.cell v0 hno, hW.cell v1 hno, hW.cell v2 hno⟩)
      have hB1' := Lib.hid hB1
      clear hB1 hno
      go_wp2_with fail
      go_region_held3 (fun W => W.cell? ⟨db, 4, none⟩ = some (.pointer (some ⟨cb, 0, none⟩)) ∧ W.cell? ⟨w.heap.size, 0, none⟩ = some (.int .i64 x.key) ∧ W.cell? ⟨w.heap.size, 1, none⟩ = some (.int .u64 x.val) ∧ W.cell? ⟨w.heap.size, 2, none⟩ = some (.bool x.dirty)) (first | exact ⟨cdb, v0, v1, v2⟩ | exact hT.out _ (Keeps.refl _ _) | exact hT.out _ hk5'.out) ((go_at_call 15; refine (hPut.out).mono ?_; rintro e w5 ⟨rfl, O5, hL5, hk5, hg5⟩; have hk5' := Lib.hid hk5; have hL5' := Lib.hid hL5; have hg5' := Lib.hid hg5; clear hk5 hL5 hg5))
      go_wp2_with fail
      go_end0
      exact by rw [hput'.out]; exact hB1'.out.put_end ((hK2.out.trans s3'.out).mono (fun _ h => h.elim)) (fun k hk => .inl hk) hL5'.out hk5'.out hg5'.out

    | true =>
      rw [hyd] at d2 hmust'
      obtain ⟨W3, hW3⟩ : ∃ W3, w2.alloc (.cells #[.int .i64 y.key, .int .u64 y.val, .bool true] 32) = W3 := ⟨_, rfl⟩
      have s3 : Keeps Nil w2 W3 := by rw [← hW3]; exact (Keeps.refl Nil w2).alloc _
      have l0 : W3.cell? ⟨w2.heap.size, 0, none⟩ = some (.int .i64 y.key) := by rw [← hW3]; simp [go_sem]
      have s3' := Lib.hid s3
      have hX3 := Lib.hid (show W3.cell? ⟨w.heap.size, 0, none⟩ = some (.int .i64 x.key) ∧ W3.cell? ⟨w.heap.size, 1, none⟩ = some (.int .u64 x.val) ∧ W3.cell? ⟨w.heap.size, 2, none⟩ = some (.bool x.dirty) from ⟨s3.cell hX2.out.1 (fun h => h), s3.cell hX2.out.2.1 (fun h => h), s3.cell hX2.out.2.2 (fun h => h)⟩)
      have hB3 := hB2.out.keeps s3 (fun _ _ h => h)
      have l2 : W3.cell? ⟨db, 2, none⟩ = some (.int .i64 (D.P.per : Nat)) := cell_of_heap hB3.blk 2
      have hq0 : 0 ≤ y.key / (D.P.per : Int) := Int.ediv_nonneg hy2.1 (by omega)
      have hq1 : y.key / (D.P.per : Int) ≤ 4096 := Int.le_trans (Int.ediv_le_self _ hy2.1) (by omega)
      obtain ⟨n, hn⟩ : ∃ n : Int, y.key / (D.P.per : Int) = n := ⟨_, rfl⟩
      rw [hn] at hq0 hq1
      have hp0 : ¬ D.P.per = 0 := by omega
      have htd : y.key.tdiv (D.P.per : Int) = n := by rw [Int.tdiv_eq_ediv_of_nonneg hy2.1, hn]
      have hwn : IntKind.i64.wrap n = n := wrap_small (by omega) (by omega)
      have hS := Lib.hid (dstore_any (O := down db OL OP) ⟨cb, OL, OP, hB3.keeps ((Keeps.refl Nil W3).drew) (fun _ _ h => h), rfl⟩ n hq0 hq1 hnd'.out hb'.out)
      have hst : D.store ((D.L.getLastD ent0).key / (D.P.per : Int)) = D.store n := by rw [hy'.out, hn]
      have hst' := Lib.hid hst
      have hW3' := Lib.hid hW3
      have hlt3 := Lib.hid (show ∀ k, down db OL OP k → k < w.heap.size from fun k hk => hOlt.out k hk)
      have hsz3 := Lib.hid (show w.heap.size < w2.heap.size ∧ w2.heap.size < W3.heap.size from ⟨lt_of_cell hX2.out.1, lt_of_cell l0⟩)
      have hT := Lib.hid (show ∀ W, Keeps (down db OL OP) W3.drew W → W.cell? ⟨w2.heap.size, 0, none⟩ = some (.int .i64 y.key) ∧ W.cell? ⟨w.heap.size, 0, none⟩ = some (.int .i64 x.key) ∧ W.cell? ⟨w.heap.size, 1, none⟩ = some (.int .u64 x.val) ∧ W.cell? ⟨w.heap.size, 2, none⟩ = some (.bool x.dirty) from
        fun W hW => ⟨hW.cell l0 (fun h => by have := hlt3.out _ h; have := hsz3.out.1; omega), hW.cell hX3.out.1 (fun h => by have := hlt3.out _ h; omega), hW.cell hX3.out.2.1 (fun h => by have := hlt3.out _ h; omega), hW.cell hX3.out.2.2 (fun h => by have := hlt3.out _ h; omega)⟩)
      have hB3' := Lib.hid hB3
      clear s3 hW3 hB3 hn hst hq0 hq1 hy2
      by_cases hc : (D.store n).1 = 0
      · have hre : resE (D.store n).1 = .returned (.tuple #[]) := if_pos hc
        rw [hre] at hS
        have hput : D.put most x = (0, (D.store n).2.ins most x) := by unfold Df.put; rw [hmust'.out, hst'.out, if_pos rfl, if_pos hc]
        have hput' := Lib.hid hput
        clear hput hc hre
        go_wp2_with fail
        rw [hW3'.out]
        go_region_held3 (fun W => W.cell? ⟨w2.heap.size, 0, none⟩ = some (.int .i64 y.key) ∧ W.cell? ⟨db, 2, none⟩ = some (.int .i64 (D.P.per : Nat))) (first | exact ⟨l0, l2⟩ | exact ⟨(hT.out _ hk9'.out).1, by rw [hD9'.out.c2, store_per]⟩) ((go_at_call 57; refine (hS.out).mono ?_; rintro e w9 ⟨rfl, O9, hD9, hk9, hg9⟩; have hk9' := Lib.hid hk9; have hD9' := Lib.hid hD9; have hg9' := Lib.hid hg9; clear hk9 hD9 hg9))
        obtain ⟨cb5, OL5, OP5, hB5, hO5⟩ := hD9'.out
        have hX5 := Lib.hid (hT.out _ hk9'.out).2
        have hw3 := Lib.hid ((hK2.out.trans s3'.out).drew)
        rw [hO5] at hg9'
        have hB5x := Lib.hid hB5
        clear hB5 hO5
        have hB1 := hB5x.out
        have cdb : w9.cell? ⟨db, 4, none⟩ = some (.pointer (some ⟨cb5, 0, none⟩)) := cell_of_heap hB1.blk 4
        have v0 : w9.cell? ⟨w.heap.size, 0, none⟩ = some (.int .i64 x.key) := hX5.out.1
        have v1 : w9.cell? ⟨w.heap.size, 1, none⟩ = some (.int .u64 x.val) := hX5.out.2.1
        have v2 : w9.cell? ⟨w.heap.size, 2, none⟩ = some (.bool x.dirty) := hX5.out.2.2
        have hPut := Lib.hid (putX' (hB1.lru.nil ((Keeps.refl Nil w9).drew)) x hB1.len hB1.most1.1)
        have hno : ¬ OL5 w.heap.size := fun h => (hg9'.out _ (.inr (.inl h))).elim (fun h => by have := hlt3.out _ h; omega) (fun e => by have a1 := hsz3.out; have a2 : W3.drew.heap.size = W3.heap.size := rfl; omega)
        have hT := Lib.hid (show ∀ W, Keeps OL5 w9.drew W → W.cell? ⟨db, 4, none⟩ = some (.pointer (some ⟨cb5, 0, none⟩)) ∧ W.cell? ⟨w.heap.size, 0, none⟩ = some (.int .i64 x.key) ∧ W.cell? ⟨w.heap.size, 1, none⟩ = some (.int .u64 x.val) ∧ W.cell? ⟨w.heap.size, 2, none⟩ = some (.bool x.dirty) from
          fun W hW => ⟨hW.cell cdb hB1.ndl, hW.cell v0 hno, hW.cell v1 hno, hW.cell v2 hno⟩)
        have hB1' := Lib.hid hB1
        clear hB1 hno
        go_wp2_with fail
        go_region_held3 (fun W => W.cell? ⟨db, 4, none⟩ = some (.pointer (some ⟨cb5, 0, none⟩)) ∧ W.cell? ⟨w.heap.size, 0, none⟩ = some (.int .i64 x.key) ∧ W.cell? ⟨w.heap.size, 1, none⟩ = some (.int .u64 x.val) ∧ W.cell? ⟨w.heap.size, 2, none⟩ = some (.bool x.dirty)) (first | exact ⟨cdb, v0, v1, v2⟩ | exact hT.out _ (Keeps.refl _ _) | exact hT.out _ hk5'.out) ((go_at_call 15; refine (hPut.out).mono ?_; rintro e w5 ⟨rfl, O5, hL5, hk5, hg5⟩; have hk5' := Lib.hid hk5; have hL5' := Lib.hid hL5; have hg5' := Lib.hid hg5; clear hk5 hL5 hg5))
        go_wp2_with fail
        go_end0
        exact by rw [hput'.out]; exact hB1'.out.put_end ((hw3.out.mono (fun _ h => h.elim)).trans hk9'.out) (fun k hk => (hg9'.out k hk).imp (fun h => h) (fun h => ⟨Nat.le_trans hw3.out.size h.1, h.2⟩)) hL5'.out hk5'.out hg5'.out

      · have hre : resE (D.store n).1 = tornE (D.store n).1 := if_neg hc
        rw [hre] at hS
        have hput : D.put most x = D.store n := by unfold Df.put; rw [hmust'.out, hst'.out, if_pos rfl, if_neg hc]
        have hput' := Lib.hid hput
        have hEnd := Lib.hid (show ∀ w5, (∃ O', DfAt w5 db pb keys most (D.store n).2 O' ∧ Keeps (down db OL OP) W3.drew w5 ∧ Grow (down db OL OP) O' W3.drew w5) → DfOut w db pb keys most (down db OL OP) (resE (D.store n).1) (D.store n).2 (tornE (D.store n).1) w5 from by
          rintro w5 ⟨O', h1, h2, h3⟩
          have hw := (hK2.out.trans s3'.out).drew
          refine ⟨hre.symm, O', h1, (hw.mono (fun _ h => h.elim)).trans h2, fun k hk => (h3 k hk).imp (fun h => h) (fun h => ⟨Nat.le_trans hw.size h.1, h.2⟩)⟩)
        clear hput hc hre
        go_wp2_with fail
        rw [hW3'.out]
        go_region_dies
        all_goals
          refine (hS.out).mono ?_
          rintro e w5 ⟨rfl, hE5⟩
          exact ⟨rfl, by rw [hput'.out]; exact hEnd.out w5 hE5⟩
  · have e1 : ((D.L.length : Int) == most) = false := by simpa using hlen
    have hput : D.put most x = (0, D.ins most x) := by unfold Df.put Df.must; rw [decide_eq_false hlen]; rfl
    have hput' := Lib.hid hput
    clear hlen hput
    have hB1 := hB2.out
    have cdb : w2.cell? ⟨db, 4, none⟩ = some (.pointer (some ⟨cb, 0, none⟩)) := cell_of_heap hB1.blk 4
    have v0 : w2.cell? ⟨w.heap.size, 0, none⟩ = some (.int .i64 x.key) := hX2.out.1
    have v1 : w2.cell? ⟨w.heap.size, 1, none⟩ = some (.int .u64 x.val) := hX2.out.2.1
    have v2 : w2.cell? ⟨w.heap.size, 2, none⟩ = some (.bool x.dirty) := hX2.out.2.2
    have hPut := Lib.hid (putX' (hB1.lru.nil ((Keeps.refl Nil w2).drew)) x hB1.len hB1.most1.1)
    have hno : ¬ OL w.heap.size := fun h => by have := hOlt.out _ (.inr (.inl h)); omega
    have hT := Lib.hid (show ∀ W, Keeps OL w2.drew W → W.cell? ⟨db, 4, none⟩ = some (.pointer (some ⟨cb, 0, none⟩)) ∧ W.cell? ⟨w.heap.size, 0, none⟩ = some (.int .i64 x.key) ∧ W.cell? ⟨w.heap.size, 1, none⟩ = some (.int .u64 x.val) ∧ W.cell? ⟨w.heap.size, 2, none⟩ = some (.bool x.dirty) from
      fun W hW => ⟨hW.cell cdb hB1.ndl, hW.cell v0 hno, hW.cell v1 hno, hW.cell v2 hno⟩)
    have hB1' := Lib.hid hB1
    clear hB1 hno
    go_wp2_with fail
    go_region_held3 (fun W => W.cell? ⟨db, 4, none⟩ = some (.pointer (some ⟨cb, 0, none⟩)) ∧ W.cell? ⟨w.heap.size, 0, none⟩ = some (.int .i64 x.key) ∧ W.cell? ⟨w.heap.size, 1, none⟩ = some (.int .u64 x.val) ∧ W.cell? ⟨w.heap.size, 2, none⟩ = some (.bool x.dirty)) (first | exact ⟨cdb, v0, v1, v2⟩ | exact hT.out _ (Keeps.refl _ _) | exact hT.out _ hk5'.out) ((go_at_call 15; refine (hPut.out).mono ?_; rintro e w5 ⟨rfl, O5, hL5, hk5, hg5⟩; have hk5' := Lib.hid hk5; have hL5' := Lib.hid hL5; have hg5' := Lib.hid hg5; clear hk5 hL5 hg5))
    go_wp2_with fail
    go_end0
    exact by rw [hput'.out]; exact hB1'.out.put_end (hK2.out.mono (fun _ h => h.elim)) (fun k hk => .inl hk) hL5'.out hk5'.out hg5'.out

end Go.Proofs.Ytnickcjkipemmaa
