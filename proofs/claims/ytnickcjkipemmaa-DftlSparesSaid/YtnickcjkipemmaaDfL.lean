/- Set of a key that is not there; Set -/
import Derived.Test.YtnickcjkipemmaaDfK
import Derived.Test.YtnickcjkipemmaaStays
namespace Go.Proofs.Ytnickcjkipemmaa
open Go.RowKit

variable {w w' : World} {db pb cb : Nat} {keys most : Int} {D D' : Df} {O OL OP T : Nat → Prop}
theorem DfOut.tried {wa w1 w5 : World} {rb : Nat} {r : Ending} {e : Ending} (h : DfOut wa db pb keys most O r D' e w1) (hr : Keeps (· = rb) w1 w5) (hn : ¬ O rb) (hrb : rb < wa.heap.size) :
    ∃ O', DfAt w5 db pb keys most D' O' ∧ Keeps (fun k => O k ∨ k = rb) wa w5 ∧ Grow O O' wa w5 := by
  obtain ⟨_, O', h1, h2, h3⟩ := h
  have hn' : ¬ O' rb := fun h => (h3 _ h).elim hn (fun e => by omega)
  refine ⟨O', h1.keeps hr (fun k hk e => hn' (by rw [← e]; exact hk)), (h2.mono (fun _ h => .inl h)).trans (hr.mono (fun _ h => .inr h)), fun k hk => (h3 k hk).imp (fun h => h) (fun h => ⟨h.1, Nat.lt_of_lt_of_le h.2 hr.size⟩)⟩
set_option maxHeartbeats 4000000 in
set_option maxRecDepth 100000 in
theorem set_miss (h : DfAt w db pb keys most D O) (k n : Int) (hk0 : 0 ≤ k) (hk1 : k < keys) (hh : lhas k D.L = false) (hnd : (D.L.map (·.key)).Nodup) (hkr : ∀ e ∈ D.L, 0 ≤ e.key ∧ e.key < 4096) (hb : D.P.Lt 100000000) :
    Calls Try.prog 31 #[.pointer (some ⟨db, 0, none⟩), .int .i64 k, .int .u64 n] w (DfOut w db pb keys most O (.returned (.int .i64 (D.put most ⟨k, n, true⟩).1)) (D.put most ⟨k, n, true⟩).2) := by
  have hmf : ∀ (fn : Fn) (first cap : Array Value) (w : World), (Instr.makeFunc fn first cap).run Try.prog w = .ok (.func fn first cap) w := fun _ _ _ _ => rfl
  obtain ⟨cb, OL, OP, h, rfl⟩ := h
  have hdb := lt_of_heap h.blk
  have c1 : w.cell? ⟨db, 1, none⟩ = some (.int .i64 keys) := cell_of_heap h.blk 1
  have c4 : w.cell? ⟨db, 4, none⟩ = some (.pointer (some ⟨cb, 0, none⟩)) := cell_of_heap h.blk 4
  obtain ⟨W1, hW1⟩ : ∃ W1, (w.alloc (.cells #[.pointer (some ⟨db, 0, none⟩)] 63)).alloc (.cells #[.int .i64 k, .int .u64 n, .bool true] 32) = W1 := ⟨_, rfl⟩
  have s1 : Keeps Nil w W1 := by rw [← hW1]; exact ((Keeps.refl Nil w).alloc _).alloc _
  have x0 : W1.cell? ⟨w.heap.size, 0, none⟩ = some (.pointer (some ⟨db, 0, none⟩)) := by rw [← hW1]; simp [go_sem]
  have x1 : W1.cell? ⟨w.heap.size + 1, 0, none⟩ = some (.int .i64 k) := by rw [← hW1]; simp [go_sem]
  have x2 : W1.cell? ⟨w.heap.size + 1, 1, none⟩ = some (.int .u64 n) := by rw [← hW1]; simp [go_sem]
  have x3 : W1.cell? ⟨w.heap.size + 1, 2, none⟩ = some (.bool true) := by rw [← hW1]; simp [go_sem]
  have hB1 := h.keeps s1 (fun _ _ h => h)
  have hG := Lib.hid (getX hB1.lru k)
  rw [hh, lfront_absent hh] at hG
  have hlt := Lib.hid (fun k (hk : down db OL OP k) => h.lt hk)
  have hB1' := Lib.hid hB1
  have s1' := Lib.hid s1
  have hX1 := Lib.hid (And.intro x0 (And.intro x1 (And.intro x2 x3)))
  have hW1' := Lib.hid hW1
  have hnd' := Lib.hid hnd
  have hkr' := Lib.hid hkr
  have hb' := Lib.hid hb
  clear h hB1 s1 hW1 x0 x1 x2 x3 hh hnd hkr hb
  go_enter Try.func31, Try.ntmps31
  go_wp2_with fail
  rw [hW1'.out]
  refine (hG.out).mono ?_
  rintro e w2 ⟨rfl, O2, hL2, hk2, hg2⟩
  obtain ⟨hB2, hK2, hG2⟩ := hB1'.out.cache hL2 hk2 hg2 hB1'.out.len
  have ho1 : ¬ OL w.heap.size := fun h => by have := hlt.out _ (.inr (.inl h)); omega
  have ho2 : ¬ OL (w.heap.size + 1) := fun h => by have := hlt.out _ (.inr (.inl h)); omega
  have sa := (Keeps.refl Nil w2).alloc (.cells #[.int .i64 0] 27)
  have y0 := sa.cell (hk2.cell hX1.out.1 ho1) (fun h => h)
  have y1 := sa.cell (hk2.cell hX1.out.2.1 ho2) (fun h => h)
  have y2 := sa.cell (hk2.cell hX1.out.2.2.1 ho2) (fun h => h)
  have y3 := sa.cell (hk2.cell hX1.out.2.2.2 ho2) (fun h => h)
  have hB2a := hB2.keeps sa (fun _ _ h => h)
  have hS := set51 ⟨cb, O2, OP, hB2a, rfl⟩ ⟨k, n, true⟩ y0 y1 y2 y3 hnd'.out hkr'.out hb'.out
  have hR := Lib.hid (tried_any (w := w2) (c := (D.put most ⟨k, n, true⟩).1) (S := fun w1 => DfOut (w2.alloc (.cells #[.int .i64 0] 27)) db pb keys most (down db O2 OP) (resE (D.put most ⟨k, n, true⟩).1) (D.put most ⟨k, n, true⟩).2 (resE (D.put most ⟨k, n, true⟩).1) w1) (enter51 _) (hS.mono fun e w1 h => by
    obtain ⟨rfl, h1⟩ := h
    refine ⟨rfl, ⟨rfl, h1⟩, ?_⟩
    obtain ⟨O', _, h2, _⟩ := h1
    exact h2.mono (fun j hj => hB2.lt hj)))
  have hK2' := Lib.hid hK2
  have hG2' := Lib.hid hG2
  have hn2 := Lib.hid (show ¬ down db O2 OP w2.heap.size from fun h => by have := hB2.lt h; omega)
  clear hB2 hK2 hG2 hL2 hk2 hg2 ho1 ho2 hS y0 y1 y2 y3 hB2a sa
  go_wp2_with fail
  refine (hR.out).mono ?_
  rintro e w5 ⟨rfl, w1, hD1, hk5⟩
  have hE := Lib.hid (hD1.tried hk5 hn2.out (by simp))
  clear hD1 hk5
  go_wp2_with fail
  go_ret
  obtain ⟨O', h1, h2, h3⟩ := hE.out
  have sa := (Keeps.refl Nil w2).alloc (.cells #[.int .i64 0] 27)
  have hKa := ((s1'.out.mono (fun _ h => h.elim)).trans hK2'.out).trans (sa.mono (fun _ h => h.elim))
  have hGa : Grow (down db OL OP) (down db O2 OP) w (w2.alloc (.cells #[.int .i64 0] 27)) := fun k hk => (hG2'.out k hk).imp (fun h => h) (fun h => ⟨Nat.le_trans s1'.out.size h.1, by simp; omega⟩)
  refine ⟨rfl, O', h1, hKa.trans' h2 (fun j hj => ?_), hGa.trans h3 hKa.size h2.size⟩
  rcases hj with hj | hj
  · exact (hGa j hj).imp (fun h => h) (fun h => h.1)
  · right
    have a1 := s1'.out.size
    have a2 := hK2'.out.size
    omega
/-- Set -/
theorem dset_any (h : DfAt w db pb keys most D O) (hok : D.Ok keys most) (k n : Int) (hk0 : 0 ≤ k) (hk1 : k < keys) (hb : D.P.Lt 100000000) :
    Calls Try.prog 31 #[.pointer (some ⟨db, 0, none⟩), .int .i64 k, .int .u64 n] w (DfOut w db pb keys most O (.returned (.int .i64 (D.set most k n).1)) (D.set most k n).2) := by
  have hkk := h.lenB
  unfold Df.set
  cases hh : lhas k D.L with
  | true => exact set_hit h k n hk0 hk1 hh
  | false => exact set_miss h k n hk0 hk1 hh hok.nodup (fun e he => ⟨(hok.key e he).1, by have := (hok.key e he).2; omega⟩) hb
end Go.Proofs.Ytnickcjkipemmaa
