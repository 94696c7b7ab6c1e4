/- nand: a die that is being made: its blocks, their pages -/
import Derived.Test.YtglpacdenfoicaaNeC
namespace Go.Proofs.Ytglpacdenfoicaa
open Go.RowKit

theorem info82 : (Try.prog.info? 82).map (fun i => (i.zero, i.size, i.bytes)) = some (some (.agg #[.slice none 0 0, .int .i64 0, .int .i64 0]), 3, 40) := by kernel_rfl
theorem info22 : (Try.prog.info? 22).map (fun i => (i.zero, i.size, i.bytes)) = some (some (.slice none 0 0), 1, 24) := by kernel_rfl
theorem info79 : (Try.prog.info? 79).map (fun i => (i.zero, i.size, i.bytes)) = some (some (.slice none 0 0), 1, 24) := by kernel_rfl
theorem info78 : (Try.prog.info? 78).map (fun i => (i.zero, i.size, i.bytes)) = some (some (.agg #[.int .i64 0, .int .i64 0, .int .i64 0, .int .i64 0, .int .i64 0, .int .i64 0, .int .i64 0, .slice none 0 0, .int .i64 0]), 9, 88) := by kernel_rfl
/-- so many new blocks -/
def blk0 (n : Nat) : Array Value := madeCells #[.slice none 0 0, .int .i64 0, .int .i64 0] (n * 3)
theorem blk0_size (n : Nat) : (blk0 n).size = n * 3 := by simp [blk0, madeCells]
theorem blk0_get (n j : Nat) (hj : j < n) : (blk0 n)[j * 3 + 1]? = some (.int .i64 0) ∧ (blk0 n)[j * 3 + 2]? = some (.int .i64 0) := by
  have h1 : j * 3 + 1 < n * 3 := by omega
  have h2 : j * 3 + 2 < n * 3 := by omega
  have e1 : (j * 3 + 1) % 3 = 1 := by omega
  have e2 : (j * 3 + 2) % 3 = 2 := by omega
  unfold blk0 madeCells
  simp [h1, h2, e1, e2]
theorem make79 (n : Nat) (hn : n ≤ 1000000) (w : World) : (Instr.makeSlice 79 (.int .i64 (n : Int)) (.int .i64 (n : Int))).run Try.prog w = .ok (.slice (some ⟨w.heap.size, 0, none⟩) n n) (w.alloc (.cells (blk0 n) 82)) := by
  obtain ⟨i82, hi, hz0, hz1, hz2⟩ := info_parts info82
  have h := run_make (P := Try.prog) w 79 82 i82 _ Try.underlying79 hi hz0 .i64 .i64 n n (by omega) (Int.le_refl _) (by rw [hz2]; omega) (by omega)
  rw [h]
  simp only [Int.toNat_natCast, hz1]
  rfl
theorem make80 (n : Nat) (hn : n ≤ 1000000) (w : World) : (Instr.makeSlice 80 (.int .i64 (n : Int)) (.int .i64 (n : Int))).run Try.prog w = .ok (.slice (some ⟨w.heap.size, 0, none⟩) n n) (w.alloc (.cells (Array.replicate n (.slice none 0 0)) 22)) := by
  rw [show Array.replicate n (Value.slice none 0 0) = (List.replicate n (.slice none 0 0)).toArray from by simp]
  obtain ⟨i22, hi, hz0, hz1, hz2⟩ := info_parts info22
  exact run_make1 w 80 22 i22 (.slice none 0 0) 24 Try.underlying80 hi hz0 hz1 hz2 rfl .i64 .i64 n (by omega) (by omega)
structure DieP (w : World) (g : Nat) (S : Sh) (i : Nat) (pk : Nat → Nat) : Prop where
  blk : ∃ cs : Array Value, w.heap[g]? = some (.cells cs 82 (0, 0)) ∧ cs.size = S.blocks * 3 ∧ (∀ n, n < i → cs[n * 3]? = some (.slice (some ⟨pk n, 0, none⟩) S.pages S.pages)) ∧ ∀ n, n < S.blocks → cs[n * 3 + 1]? = some (.int .i64 0) ∧ cs[n * 3 + 2]? = some (.int .i64 0)
  pgs : ∀ n, n < i → PgsAt w No S.pages (pk n) (fun _ => none)
  gt : ∀ n, n < i → g < pk n
  inj : ∀ n n', n < i → n' < i → pk n = pk n' → n = n'
variable {w w' : World} {g i : Nat} {S : Sh} {pk : Nat → Nat}
theorem DieP.begin (S : Sh) (h : w.heap[g]? = some (.cells (blk0 S.blocks) 82 (0, 0))) : DieP w g S 0 (fun _ => 0) :=
  ⟨⟨_, h, blk0_size _, fun _ h => absurd h (Nat.not_lt_zero _), fun n hn => blk0_get _ n hn⟩, fun _ h => absurd h (Nat.not_lt_zero _), fun _ h => absurd h (Nat.not_lt_zero _), fun _ _ h => absurd h (Nat.not_lt_zero _)⟩
theorem DieP.nil (h : DieP w g S i pk) (hk : Keeps Nil w w') : DieP w' g S i pk := by
  obtain ⟨⟨cs, c1, c2⟩, h2, h3, h4⟩ := h
  exact ⟨⟨cs, hk.heap c1 (fun h => h), c2⟩, fun n hn => (h2 n hn).none_keeps hk (fun h => h), h3, h4⟩
theorem DieP.lt (h : DieP w g S i pk) : g < w.heap.size := by
  obtain ⟨⟨cs, c1, _⟩, _⟩ := h
  exact lt_of_heap c1
/-- a block's pages more -/
theorem DieP.add (h : DieP w g S i pk) (hi : i < S.blocks) : DieP ((w.alloc (.cells (Array.replicate S.pages (.slice none 0 0)) 22)).setCell ⟨g, i * 3, none⟩ (.slice (some ⟨w.heap.size, 0, none⟩) S.pages S.pages)) g S (i + 1) (fun n => if n = i then w.heap.size else pk n) := by
  have h' := h.nil ((Keeps.refl Nil w).alloc (.cells (Array.replicate S.pages (.slice none 0 0)) 22))
  have hq := heap_alloc_new w (.cells (Array.replicate S.pages (.slice none 0 0)) 22)
  have hg := h.lt
  have hlt : ∀ n, n < i → pk n < w.heap.size := fun n hn => by
    obtain ⟨ps, hp, _⟩ := h.pgs n hn
    exact lt_of_heap hp
  generalize hw2 : w.alloc (.cells (Array.replicate S.pages (.slice none 0 0)) 22) = w2 at h' hq ⊢
  have k2 : Keeps (· = g) w2 (w2.setCell ⟨g, i * 3, none⟩ (.slice (some ⟨w.heap.size, 0, none⟩) S.pages S.pages)) := (Keeps.refl (· = g) w2).setCell (.inl rfl) _
  obtain ⟨⟨cs, c1, c2, c3, c4⟩, p2, p3, p4⟩ := h'
  refine ⟨⟨_, heap_setCell_same c1 _ _, by simpa using c2, ?_, ?_⟩, ?_, ?_, ?_⟩
  · intro n hn
    by_cases e : n = i
    · subst e
      rw [set_at (by omega), if_pos rfl]
    · rw [set_off (by omega), if_neg e]
      exact c3 n (by omega)
  · intro n hn
    rw [set_off (by omega), set_off (by omega)]
    exact c4 n hn
  · intro n hn
    by_cases e : n = i
    · simp only [e, if_true]
      refine ⟨_, k2.heap hq (by omega), by simp, fun p hp => ⟨.slice none 0 0, by simp [hp], rfl⟩⟩
    · simp only [e, if_false]
      have := hlt n (by omega)
      obtain ⟨ps, q1, q2⟩ := p2 n (by omega)
      exact (p2 n (by omega)).none_keeps k2 (cells_ne q1 c1 (by decide))
  · intro n hn
    by_cases e : n = i
    · simp only [e, if_true]; exact hg
    · simp only [e, if_false]; exact p3 n (by omega)
  · intro n n' hn hn' e
    by_cases c1 : n = i <;> by_cases c2 : n' = i
    · omega
    · simp only [c1, c2, if_true, if_false] at e
      have := hlt n' (by omega)
      omega
    · simp only [c1, c2, if_true, if_false] at e
      have := hlt n (by omega)
      omega
    · simp only [c1, c2, if_false] at e
      exact p4 n n' (by omega) (by omega) e
theorem DieP.done (h : DieP w g S S.blocks pk) : DieAt w S.blocks S.pages g pk (fun _ => bk0) := by
  obtain ⟨⟨cs, c1, c2, c3, c4⟩, _⟩ := h
  exact ⟨cs, c1, c2, fun n hn => ⟨c3 n hn, (c4 n hn).1, (c4 n hn).2⟩⟩
end Go.Proofs.Ytglpacdenfoicaa
