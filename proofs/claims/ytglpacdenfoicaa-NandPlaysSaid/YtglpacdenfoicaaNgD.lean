/- the document's array within a call -/
import Derived.Test.YtglpacdenfoicaaNgC
namespace Go.Proofs.Ytglpacdenfoicaa
open Go.RowKit

/-- where the array lies -/
structure RfP where
  rb : Nat
  bb : Nat
  bc : Nat
  pb : Nat → Nat
  pc : Nat → Nat
  fa : Option Addr
  fc : Nat
  la : Option Addr
  lc : Nat
  L : List Fx
def RfQ (w : World) (P : RfP) (A : Nd) (O : Nat → Prop) : Prop := RfB w P.rb A P.bb P.bc P.pb P.pc P.fa P.fc P.la P.lc P.L O
/-- since w the array alone was written -/
def RfI (w : World) (P : RfP) (O : Nat → Prop) (wr : World) (A : Nd) (O' : Nat → Prop) : Prop := RfQ wr P A O' ∧ Keeps O w wr ∧ ∀ k, O' k → O k ∨ w.heap.size ≤ k
variable {w wr w' : World} {P : RfP} {O O' : Nat → Prop} {A A' : Nd}
theorem RfI.begin (h : RfQ w P A O) : RfI w P O w A O := ⟨h, Keeps.refl _ _, fun _ h => .inl h⟩
theorem RfI.nil (h : RfI w P O wr A O') (hk : Keeps Nil wr w') : RfI w P O w' A O' := ⟨RfB.nil h.1 hk, h.2.1.trans (hk.mono (fun _ h => h.elim)), h.2.2⟩
theorem RfI.edit {T : Nat → Prop} (h : RfI w P O wr A O') (hq : RfQ w' P A' O') (hk : Keeps T wr w') (hT : ∀ k, T k → O' k) : RfI w P O w' A' O' := ⟨hq, h.2.1.trans' hk (fun k hk => h.2.2 k (hT k hk)), h.2.2⟩
theorem RfI.own (h : RfI w P O wr A O') : O' P.rb := RfB.ownA h.1
/-- the array's own cells are written -/
theorem RfI.cells (h : RfI w P O wr A O') (hk : Keeps (· = P.rb) wr w') (hb : w'.heap[P.rb]? = some (.cells (rfCells A' P.bb P.bc P.fa P.L.length P.fc P.la P.lc) 105 (0, 0))) (hS : A'.S = A.S) (hB : A'.B = A.B) (hF : A'.F = A.F) : RfI w P O w' A' O' :=
  h.edit (RfB.editA h.1 hk hb hS hB hF) hk (fun k hk => by rw [hk]; exact h.own)
theorem RfI.blk (h : RfI w P O wr A O') : wr.heap[P.rb]? = some (.cells (rfCells A P.bb P.bc P.fa P.L.length P.fc P.la P.lc) 105 (0, 0)) := RfB.blk h.1
theorem RfI.next {d n : Nat} (h : RfI w P O wr A O') (hd : d < A.S.dies) (hn : n < A.S.blocks) (x : Int) : RfI w P O (wr.setCell ⟨P.bb, (d * A.S.blocks + n) * 3 + 1, none⟩ (.int .i64 x)) (A.setB d n ((A.B d n).at x)) O' :=
  h.edit (RfB.setNext h.1 hd hn x) ((Keeps.refl (· = P.bb) wr).setCell (p := ⟨P.bb, (d * A.S.blocks + n) * 3 + 1, none⟩) (.inl rfl) _) (fun k hk => by rw [hk]; exact RfB.ownB h.1)
theorem RfI.er {d n : Nat} (h : RfI w P O wr A O') (hd : d < A.S.dies) (hn : n < A.S.blocks) : RfI w P O (wr.setCell ⟨P.bb, (d * A.S.blocks + n) * 3 + 2, none⟩ (.int .i64 (((A.B d n).er + 1 : Nat) : Int))) (A.setB d n (A.B d n).wear) O' :=
  h.edit (RfB.setEr h.1 hd hn) ((Keeps.refl (· = P.bb) wr).setCell (p := ⟨P.bb, (d * A.S.blocks + n) * 3 + 2, none⟩) (.inl rfl) _) (fun k hk => by rw [hk]; exact RfB.ownB h.1)
/-- a page is laid: its row is new -/
theorem RfI.page {d n p x c : Nat} {l : List Int} {k' : Bk} {w1 : World} (h : RfI w P O w1 A O') (hk : Keeps Nil w1 wr) (hd : d < A.S.dies) (hn : n < A.S.blocks) (hp : p < A.S.pages) (hx : NumRow .u8 wr 5 (some ⟨x, 0, none⟩) c l) (hx1 : w1.heap.size ≤ x) (hl : l.length = A.S.bytes)
    (hnx : k'.next = (A.B d n).next) (her : k'.er = (A.B d n).er) (hpg : ∀ q, q < A.S.pages → pgBytes A.S.bytes (k'.pg q) = if q = p then l else pgBytes A.S.bytes ((A.B d n).pg q)) :
    RfI w P O (wr.setCell ⟨P.pb (d * A.S.blocks + n), p, none⟩ (.slice (some ⟨x, 0, none⟩) A.S.bytes c)) (A.setB d n k') (fun k => O' k ∨ k = x) := by
  have h2 := h.nil hk
  refine ⟨RfB.setPage h2.1 hd hn hp hx hl (fun y hy h0 g hg e => ?_) hnx her hpg, h2.2.1.setCell (h2.2.2 _ (RfB.ownP h2.1 d n hd hn)) _, fun k hk => ?_⟩
  · obtain ⟨b, off, e2, hc⟩ := (RfB.bits h.1 y hy).1 0 h0
    rw [e2] at hg
    cases hg
    have h3 := lt_of_cell hc
    change b = x at e
    omega
  · rcases hk with hk | hk
    · exact h2.2.2 k hk
    · right
      rw [hk]
      exact Nat.le_trans h.2.1.size hx1
/-- a block's pages -/
theorem RfI.pgs {d n p : Nat} (h : RfI w P O wr A O') (hd : d < A.S.dies) (hn : n < A.S.blocks) (hp : p < A.S.pages) : ∃ x c, wr.cell? ⟨P.pb (d * A.S.blocks + n), p, none⟩ = some (.slice (some ⟨x, 0, none⟩) A.S.bytes c) ∧ wr.frozen? ⟨P.pb (d * A.S.blocks + n), p, none⟩ = false ∧
    NumRow .u8 wr 5 (some ⟨x, 0, none⟩) c (pgBytes A.S.bytes ((A.B d n).pg p)) ∧ (pgBytes A.S.bytes ((A.B d n).pg p)).length = A.S.bytes := by
  obtain ⟨ps, p1, p2, p3⟩ := RfB.pgs h.1 d n hd hn
  obtain ⟨x, c, a, b, e, _⟩ := p3 p hp
  exact ⟨x, c, (cell_of_heap p1 _).trans a, frozen_of_heap p1 _, b, e⟩
theorem RfI.pbne {d n : Nat} (h : RfI w P O wr A O') (hd : d < A.S.dies) (hn : n < A.S.blocks) : P.pb (d * A.S.blocks + n) ≠ P.rb ∧ P.pb (d * A.S.blocks + n) ≠ P.bb ∧ P.bb ≠ P.rb := by
  obtain ⟨ps, p1, _⟩ := RfB.pgs h.1 d n hd hn
  obtain ⟨cs, c1, _⟩ := RfB.blocks h.1
  exact ⟨cells_ne p1 h.blk (by decide), cells_ne p1 c1 (by decide), cells_ne c1 h.blk (by decide)⟩
/-- a die that is dead, whatever the block -/
theorem struck_die (A : Nd) (op d n m : Int) : A.struck op 4 d n = A.struck op 4 d m := by
  unfold Nd.struck
  congr 1
theorem cut_part {A : Nd} (h : A.Ok) {op p : Int} (hc : A.cut op = some p) : 0 ≤ p ∧ p ≤ 9223372036854775807 := by
  unfold Nd.cut at hc
  rw [Option.map_eq_some_iff] at hc
  obtain ⟨f, hf, rfl⟩ := hc
  exact (h.F f (List.mem_of_find?_eq_some hf)).part
def RfRes (w : World) (P : RfP) (O : Nat → Prop) (r : Value) (A' : Nd) (e : Ending) (w' : World) : Prop := e = .returned r ∧ ∃ O', RfI w P O w' A' O'
theorem begin66I {b : Nat} (h : RfI w P O wr A O') (hb : A.ops ≤ b) (hb2 : b ≤ 1000000) : Calls Try.prog 66 #[.pointer (some ⟨P.rb, 0, none⟩)] wr fun e w' => e = .returned (.int .i64 (A.ops : Nat)) ∧ RfI w P O w' { A with ops := A.ops + 1 } O' := by
  refine (begin66 h.1 hb hb2).mono fun e w' hr => ?_
  exact ⟨hr.1, h.edit hr.2.1 hr.2.2 (fun k hk => by rw [hk]; exact h.own)⟩
end Go.Proofs.Ytglpacdenfoicaa
