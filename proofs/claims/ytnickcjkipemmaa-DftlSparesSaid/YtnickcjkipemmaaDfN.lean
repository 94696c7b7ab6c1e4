/- Get, whole -/
import Derived.Test.YtnickcjkipemmaaDfM
namespace Go.Proofs.Ytnickcjkipemmaa
open Go.RowKit

variable {w w' : World} {db pb cb : Nat} {keys most : Int} {D D' : Df} {O OL OP T : Nat → Prop}
def vars32 (w : World) (db : Nat) (k : Int) : World := ((w.alloc (.cells #[.pointer (some ⟨db, 0, none⟩)] 63)).alloc (.cells #[.int .i64 k] 3)).alloc (.cells #[.int .u64 0] 30)
set_option maxHeartbeats 4000000 in
set_option maxRecDepth 100000 in
theorem get_arg (h : DfAt w db pb keys most D O) (k : Int) (hk : k < 0 ∨ keys ≤ k) :
    Calls Try.prog 32 #[.pointer (some ⟨db, 0, none⟩), .int .i64 k] w fun e w' => e = .returned (.tuple #[.int .u64 0, .int .i64 1]) ∧ Keeps Nil w w' := by
  obtain ⟨cb, OL, OP, h, rfl⟩ := h
  have hdb := lt_of_heap h.blk
  have c1 : w.cell? ⟨db, 1, none⟩ = some (.int .i64 keys) := cell_of_heap h.blk 1
  have hc : (k < 0) ∨ (¬ k < 0 ∧ keys ≤ k) := by omega
  clear h hk
  rcases hc with hc | ⟨hc, hc2⟩
  · have d1 : decide (k < 0) = true := decide_eq_true hc
    go_enter Try.func32, Try.ntmps32
    go_wp2_with fail
    go_quiet (fail)
    go_wp2_with fail
    refine ⟨rfl, .tuple #[.int .u64 0, .int .i64 1], ?_, rfl, ?_⟩
    · simp [results, Try.results32, go_sem]
    · exact ((((Keeps.refl Nil w).alloc _).alloc _).alloc _).drewN _ |>.setCell (.inr (by simp; omega)) _
  · have d1 : decide (k < 0) = false := decide_eq_false hc
    have d2 : decide (keys ≤ k) = true := decide_eq_true hc2
    have c1q := ((((Keeps.refl Nil w).alloc (.cells #[.pointer (some ⟨db, 0, none⟩)] 63)).alloc (.cells #[.int .i64 k] 3)).alloc (.cells #[.int .u64 0] 30)).cell c1 (fun h => h)
    go_enter Try.func32, Try.ntmps32
    go_wp2_with fail
    go_quiet (fail)
    go_wp2_with fail
    refine ⟨rfl, .tuple #[.int .u64 0, .int .i64 1], ?_, rfl, ?_⟩
    · simp [results, Try.results32, go_sem]
    · exact ((((Keeps.refl Nil w).alloc _).alloc _).alloc _).drewN _ |>.setCell (.inr (by simp; omega)) _
/-- the variables of a Get, made -/
structure GetV (w W : World) (db : Nat) (k : Int) : Prop where
  m : W.cell? ⟨w.heap.size, 0, none⟩ = some (.pointer (some ⟨db, 0, none⟩))
  k : W.cell? ⟨w.heap.size + 1, 0, none⟩ = some (.int .i64 k)
  n : W.heap[w.heap.size + 1 + 1]? = some (.cells #[.int .u64 0] 30 (0, 0))
  keep : Keeps Nil w W
theorem getV_new (w : World) (db : Nat) (k : Int) (j : Nat) : GetV w ((((w.alloc (.cells #[.pointer (some ⟨db, 0, none⟩)] 63)).alloc (.cells #[.int .i64 k] 3)).alloc (.cells #[.int .u64 0] 30)).drewN j) db k := by
  refine ⟨by simp [go_sem], by simp [go_sem], ?_, ((((Keeps.refl Nil w).alloc _).alloc _).alloc _).drewN _⟩
  have := heap_alloc_new ((w.alloc (.cells #[.pointer (some ⟨db, 0, none⟩)] 63)).alloc (.cells #[.int .i64 k] 3)) (.cells #[.int .u64 0] 30)
  simpa using this
set_option maxHeartbeats 4000000 in
set_option maxRecDepth 100000 in
theorem get_hit (h : DfAt w db pb keys most D O) (k : Int) (hk0 : 0 ≤ k) (hk1 : k < keys) (hh : lhas k D.L = true) :
    Calls Try.prog 32 #[.pointer (some ⟨db, 0, none⟩), .int .i64 k] w (DfOut w db pb keys most O (.returned (.tuple #[.int .u64 (lval k D.L), .int .i64 0])) ⟨D.P, lfront k D.L⟩) := by
  obtain ⟨cb, OL, OP, h, rfl⟩ := h
  have hdb := lt_of_heap h.blk
  have c1 : w.cell? ⟨db, 1, none⟩ = some (.int .i64 keys) := cell_of_heap h.blk 1
  have hlt := Lib.hid (fun k (hk : down db OL OP k) => h.lt hk)
  have h' := Lib.hid h
  have hh' := Lib.hid hh
  have d1 : decide (k < 0) = false := decide_eq_false (by omega)
  have d2 : decide (keys ≤ k) = false := decide_eq_false (by omega)
  have c1q := ((((Keeps.refl Nil w).alloc (.cells #[.pointer (some ⟨db, 0, none⟩)] 63)).alloc (.cells #[.int .i64 k] 3)).alloc (.cells #[.int .u64 0] 30)).cell c1 (fun h => h)
  clear h hh
  go_enter Try.func32, Try.ntmps32
  go_wp2_with fail
  go_quiet (fail)
  have hV := getV_new w db k nq
  generalize hW1 : (((w.alloc (.cells #[.pointer (some ⟨db, 0, none⟩)] 63)).alloc (.cells #[.int .i64 k] 3)).alloc (.cells #[.int .u64 0] 30)).drewN nq = W1 at hV ⊢
  have x0 := hV.m
  have x1 := hV.k
  have hB1 := h'.out.keeps hV.keep (fun _ _ h => h)
  have x4 : W1.cell? ⟨db, 4, none⟩ = some (.pointer (some ⟨cb, 0, none⟩)) := cell_of_heap hB1.blk 4
  have hG := getX (hB1.lru.nil ((Keeps.refl Nil W1).drew)) k
  rw [hh'.out] at hG
  have hG' := Lib.hid hG
  have ho : ∀ j, w.heap.size ≤ j → ¬ OL j := fun j hj h => by have := hlt.out _ (.inr (.inl h)); omega
  have hT := Lib.hid (show ∀ W, Keeps OL W1.drew W → W.cell? ⟨w.heap.size, 0, none⟩ = some (.pointer (some ⟨db, 0, none⟩)) ∧ W.cell? ⟨w.heap.size + 1, 0, none⟩ = some (.int .i64 k) ∧ W.cell? ⟨db, 4, none⟩ = some (.pointer (some ⟨cb, 0, none⟩)) from
    fun W hW => ⟨hW.cell x0 (ho _ (Nat.le_refl _)), hW.cell x1 (ho _ (by omega)), hW.cell x4 h'.out.ndl⟩)
  have hV' := Lib.hid hV
  have hB1' := Lib.hid hB1
  have ho' := Lib.hid ho
  clear hW1 hV hB1 hG ho
  go_wp2_with fail
  go_region_held3 (fun W => W.cell? ⟨w.heap.size, 0, none⟩ = some (.pointer (some ⟨db, 0, none⟩)) ∧ W.cell? ⟨w.heap.size + 1, 0, none⟩ = some (.int .i64 k) ∧ W.cell? ⟨db, 4, none⟩ = some (.pointer (some ⟨cb, 0, none⟩))) (first | exact ⟨x0, x1, x4⟩ | exact hT.out _ (Keeps.refl _ _) | exact hT.out _ hk5'.out) ((go_at_call 16; refine (hG'.out).mono ?_; rintro e w5 ⟨rfl, O5, hL5, hk5, hg5⟩; have hk5' := Lib.hid hk5; have hL5' := Lib.hid hL5; have hg5' := Lib.hid hg5; clear hk5 hL5 hg5))
  obtain ⟨hB5, hK5, hG5⟩ := (hB1'.out.keeps ((Keeps.refl Nil W1).drew) (fun _ _ h => h)).cache hL5'.out hk5'.out hg5'.out (by rw [lfront_len]; exact hB1'.out.len)
  have hn5 := hk5'.out.heap (((Keeps.refl Nil W1).drew).heap hV'.out.n (fun h => h)) (ho'.out _ (by omega))
  have cn := cell_of_heap hn5 0
  have fn := frozen_of_heap hn5
  simp at cn
  have hB5' := Lib.hid hB5
  have hK5' := Lib.hid hK5
  have hG5'' := Lib.hid hG5
  have hlt5 := Lib.hid (lt_of_heap hV'.out.n)
  clear hB5 hK5 hG5 hn5
  go_wp2_with fail
  have s := (Keeps.refl (· = w.heap.size + 1 + 1) w5).setCell (p := ⟨w.heap.size + 1 + 1, 0, none⟩) (.inl rfl) (.int .u64 (lval k D.L))
  have hKa := (hV'.out.keep.drew.mono (T := down db OL OP) (fun _ h => h.elim)).trans hK5'.out
  have hno : ¬ down db O5 OP (w.heap.size + 1 + 1) := fun h => (hG5''.out _ h).elim (fun h => by have := hlt.out _ h; omega) (fun e => by have a1 := hlt5.out; have a2 : W1.drew.heap.size = W1.heap.size := rfl; omega)
  refine ⟨rfl, .tuple #[.int .u64 (lval k D.L), .int .i64 0], ?_, rfl, down db O5 OP, ⟨cb, O5, OP, hB5'.out.keeps s (fun j hj e => hno (by rw [← e]; exact hj)), rfl⟩, hKa.setCell (.inr (by simp; omega)) _, fun j hj => (hG5''.out j hj).imp (fun h => h) (fun h => ⟨Nat.le_trans hV'.out.keep.size h.1, Nat.lt_of_lt_of_le h.2 s.size⟩)⟩
  simp [results, Try.results32, go_sem, World.cell?_setCell_same _ _ _ cn]
end Go.Proofs.Ytnickcjkipemmaa
