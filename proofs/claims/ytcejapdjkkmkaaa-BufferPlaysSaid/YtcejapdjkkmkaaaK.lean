/- BufferNewer: the walk -/
import Derived.Test.YtcejapdjkkmkaaaJ
namespace Go.Proofs.Ytcejapdjkkmkaaa
open Go.RowKit

attribute [local go_sem ↓] Go.wp_at_zero Go.wp_at_succ

/-- the buffer, the map of the keys, the row of the keys in their order -/
structure NewW (w0 w : World) (bb tb : Nat) (most : Int) (l : List It) (f : List (Int × Value)) (O : Nat → Prop) (ra : Option Addr) (rc : Nat) : Prop where
  m : MetB w0 w bb tb most l f O
  row : KeyRow w ra rc (ikeys l)
  rge : ∀ g, blk ra = some g → w0.heap.size ≤ g
  rno : ∀ g, blk ra = some g → ¬ O g ∧ g ≠ tb

variable {w0 w w5 w6 W6 w7 : World} {bb tb rc rc5 : Nat} {most : Int} {l l' : List It} {f f' : List (Int × Value)} {O : Nat → Prop} {ra ra5 : Option Addr}
theorem NewW.map5 (h : NewW w0 w bb tb most l f O ra rc) (k5 : Keeps (fun j => blk ra = some j) w w5) : MapAt w5 tb f := h.m.m.keeps k5 (fun e => (h.rno tb e).2 rfl)
theorem NewW.keep5 (h : NewW w0 w bb tb most l f O ra rc) (k5 : Keeps (fun j => blk ra = some j) w w5) : Keeps Nil w0 w5 := h.m.b.k.trans' k5 (fun j hj => .inr (h.rge j hj))
theorem NewW.mid (h : NewW w0 w bb tb most l f O ra rc) (k5 : Keeps (fun j => blk ra = some j) w w5) (k6 : Keeps (· = tb) w5 w6) : BufIn w0 w6 bb most l O :=
  ⟨(h.m.b.x.keeps k5 (fun k hk e => (h.rno k e).1 hk)).keeps k6 (fun k hk e => h.m.no (e ▸ hk)), (h.keep5 k5).trans' k6 (fun j hj => .inr (by rw [hj]; exact h.m.ge)), h.m.b.o⟩
theorem NewW.fin (h : NewW w0 w bb tb most l f O ra rc) (k5 : Keeps (fun j => blk ra = some j) w w5) (row5 : KeyRow w5 ra5 rc5 (ikeys l')) (hb : ∀ g, blk ra5 = some g → blk ra = some g ∨ w.heap.size ≤ g) (hm6 : MapAt w6 tb f') (k6 : Keeps (· = tb) w5 w6)
    (kN : Keeps Nil w6 W6) {v : Value} {e : Ending} (hB : BOut W6 bb most O v l' e w7) (hkeys : mkeys f' = ikeys l') (hl' : (l'.length : Int) ≤ most) : ∃ O', NewW w0 w7 bb tb most l' f' O' ra5 rc5 := by
  obtain ⟨-, O', h1, h2, h3⟩ := (h.mid k5 k6).out kN hB
  have hgo : ∀ g, blk ra5 = some g → ¬ O g ∧ g ≠ tb := fun g hg => by
    rcases hb g hg with e | e
    · exact h.rno g e
    · exact ⟨fun ho => by have := h.m.b.x.lt ho; omega, fun e' => by have := h.m.m.lt; omega⟩
  have htl : tb < w6.heap.size := hm6.lt
  refine ⟨O', ⟨h1, hl', (hm6.keeps kN (fun h => h)).keeps h2 h.m.no, hkeys, h.m.ge, fun ho => ?_⟩, ?_, fun g hg => ?_, fun g hg => ⟨fun ho => ?_, (hgo g hg).2⟩⟩
  · rcases h3 tb ho with h4 | h4
    · exact h.m.no h4
    · have := kN.size; omega
  · exact RowAt.keeps (RowAt.keeps (RowAt.keeps row5 k6 (fun g hg => (hgo g hg).2)) kN (fun _ _ h => h)) h2 (fun g hg => (hgo g hg).1)
  · rcases hb g hg with e | e
    · exact h.rge g e
    · exact Nat.le_trans h.m.b.k.size e
  · rcases h3 g ho with h4 | h4
    · exact (hgo g hg).1 h4
    · have q1 : g < w5.heap.size := RowAt.lt row5 hg
      have q2 := k6.size
      have q3 := kN.size
      omega
end Go.Proofs.Ytcejapdjkkmkaaa
