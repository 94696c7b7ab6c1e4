/-
  No cell of these rows narrows 'for every input' (looked for: loops, veiled, ifaces, maps, wideKeys, modest, calm, conditions, laid).
  DERIVED. THE GIVEN ROWS OF THIS SEAT. 4 by the template 'for every input the law returns true; each argument reads behind the call as it read before'; 0 by the template 'total and deterministic' (their statements: YtcejapdjkkmkaaaTotals.lean).
  GIVEN WITH THE SEED: the statements are not yours to turn. If you find one false, say at which input.
  Laid BY PROGRAM, IN A SANDBOX (cutbox-rows.mjs): the forced cells as the released guide's own fill.sh prints them over the translation be147735d00239f9… (all of the seat's roots in one cut). By AI agents, Wed Nov 11 2026. No macro, syntax, notation, axiom, sorry.
-/
import Derived.Test.YtcejapdjkkmkaaaChecked
import GoSem.Claim
import GoSem.ClaimJoined
import GoSem.ClaimMapViews
import Derived.JoinedTies
import Derived.KernelRfl
namespace Go.Proofs.Ytcejapdjkkmkaaa
/- THE CELL 'sum', in the pinned program and in every row, IS THE sha256 OF THE DUMP (.gsa) THAT YtcejapdjkkmkaaaProg.lean LOADS. Nothing in Lean hashes anything: it is a label: what it is worth is what the hold of that sum in a sandbox is worth. -/
noncomputable def Try.pinned : Pinned := { name := "ytcejapdjkkmkaaa", sum := "be147735d00239f96eeeb95bb830cccc7b1b4c91bd48c49ae88ef9e4d2ab7c07", checked := Try.checked }
namespace Rows
def none {H : Type} : Left H := { results := [], args := [] }

/-- 'firkinlaw13.BufferOrders': WHATEVER THE INPUT: true; the input reads as it did. -/
def bufferOrdersSpec : ChangeSpec := { name := "bufferOrders", fn := fun _ => fun
  | [d1, d2] => { results := [.lit (.bool true)], args := [d1, d2] }
  | _ => none }
def bufferOrdersRow : OpenClaim := { program := "ytcejapdjkkmkaaa", sum := "be147735d00239f96eeeb95bb830cccc7b1b4c91bd48c49ae88ef9e4d2ab7c07", func := "firkin/firkinlaw13.BufferOrders", spec := "bufferOrders", apart := false }
def BufferOrdersSaid : Prop := bufferOrdersRow.holds Try.pinned (OpenSpec.ofChange bufferOrdersSpec)

/-- ITS FALSE NEIGHBOUR: 'it returns false'. Refute it at one input. -/
def bufferOrdersWrong : ChangeSpec := { name := "bufferOrders", fn := fun _ => fun
  | [d1, d2] => { results := [.lit (.bool false)], args := [d1, d2] }
  | _ => none }
def BufferOrdersWrongFalsely : Prop := bufferOrdersRow.holds Try.pinned (OpenSpec.ofChange bufferOrdersWrong)

/-- 'firkinlaw13.BufferBounds': WHATEVER THE INPUT: true; the input reads as it did. -/
def bufferBoundsSpec : ChangeSpec := { name := "bufferBounds", fn := fun _ => fun
  | [d1, d2] => { results := [.lit (.bool true)], args := [d1, d2] }
  | _ => none }
def bufferBoundsRow : OpenClaim := { program := "ytcejapdjkkmkaaa", sum := "be147735d00239f96eeeb95bb830cccc7b1b4c91bd48c49ae88ef9e4d2ab7c07", func := "firkin/firkinlaw13.BufferBounds", spec := "bufferBounds", apart := false }
def BufferBoundsSaid : Prop := bufferBoundsRow.holds Try.pinned (OpenSpec.ofChange bufferBoundsSpec)

/-- ITS FALSE NEIGHBOUR: 'it returns false'. Refute it at one input. -/
def bufferBoundsWrong : ChangeSpec := { name := "bufferBounds", fn := fun _ => fun
  | [d1, d2] => { results := [.lit (.bool false)], args := [d1, d2] }
  | _ => none }
def BufferBoundsWrongFalsely : Prop := bufferBoundsRow.holds Try.pinned (OpenSpec.ofChange bufferBoundsWrong)

/-- 'firkinlaw13.BufferPlays': WHATEVER THE INPUT: true; the input reads as it did. -/
def bufferPlaysSpec : ChangeSpec := { name := "bufferPlays", fn := fun _ => fun
  | [d1, d2] => { results := [.lit (.bool true)], args := [d1, d2] }
  | _ => none }
def bufferPlaysRow : OpenClaim := { program := "ytcejapdjkkmkaaa", sum := "be147735d00239f96eeeb95bb830cccc7b1b4c91bd48c49ae88ef9e4d2ab7c07", func := "firkin/firkinlaw13.BufferPlays", spec := "bufferPlays", apart := false }
def BufferPlaysSaid : Prop := bufferPlaysRow.holds Try.pinned (OpenSpec.ofChange bufferPlaysSpec)

/-- ITS FALSE NEIGHBOUR: 'it returns false'. Refute it at one input. -/
def bufferPlaysWrong : ChangeSpec := { name := "bufferPlays", fn := fun _ => fun
  | [d1, d2] => { results := [.lit (.bool false)], args := [d1, d2] }
  | _ => none }
def BufferPlaysWrongFalsely : Prop := bufferPlaysRow.holds Try.pinned (OpenSpec.ofChange bufferPlaysWrong)

/-- 'firkinlaw13.BufferNewer': WHATEVER THE INPUT: true; the input reads as it did. -/
def bufferNewerSpec : ChangeSpec := { name := "bufferNewer", fn := fun _ => fun
  | [d1, d2, d3] => { results := [.lit (.bool true)], args := [d1, d2, d3] }
  | _ => none }
def bufferNewerRow : OpenClaim := { program := "ytcejapdjkkmkaaa", sum := "be147735d00239f96eeeb95bb830cccc7b1b4c91bd48c49ae88ef9e4d2ab7c07", func := "firkin/firkinlaw13.BufferNewer", spec := "bufferNewer", apart := false }
def BufferNewerSaid : Prop := bufferNewerRow.holds Try.pinned (OpenSpec.ofChange bufferNewerSpec)

/-- ITS FALSE NEIGHBOUR: 'it returns false'. Refute it at one input. -/
def bufferNewerWrong : ChangeSpec := { name := "bufferNewer", fn := fun _ => fun
  | [d1, d2, d3] => { results := [.lit (.bool false)], args := [d1, d2, d3] }
  | _ => none }
def BufferNewerWrongFalsely : Prop := bufferNewerRow.holds Try.pinned (OpenSpec.ofChange bufferNewerWrong)

/- THE SECOND FORM. 'bulk': how many values and letters a reading holds, each counted each time it is reached (what is shared counts as often as it is met; a slice's spare places count too). A statement '..UptoSaid' is the law's where the arguments, and the package variables that the reading takes, are together of bulk at most 1048576: NARROWER than '..Said'. Prove '..Said' where nothing that the law and all that it calls make is longer than what came in: it says more and counts as full. Else prove '..UptoSaid'. A law counts once. -/
mutual
def uptoBulk {H : Type} : DataW H → Nat
  | .lit (.string bytes) => bytes.length + 1
  | .lit _ => 1
  | .nil => 1
  | .ptr d => uptoBulk d + 1
  | .slice elems spare => uptoBulkAll elems + uptoBulkAll spare + 1
  | .agg parts => uptoBulkAll parts + 1
  | .iface _ d => uptoBulk d + 1
  | .map entries => uptoBulkEntries entries + 1
  | .held _ => 1
def uptoBulkAll {H : Type} : List (DataW H) → Nat
  | [] => 0
  | d :: r => uptoBulk d + uptoBulkAll r
def uptoBulkEntries {H : Type} : List (Lit × DataW H) → Nat
  | [] => 0
  | x :: r => uptoBulkEntry x + uptoBulkEntries r
def uptoBulkEntry {H : Type} : Lit × DataW H → Nat
  | (.string bytes, d) => bytes.length + uptoBulk d + 1
  | (_, d) => uptoBulk d + 1
 end
def uptoSmall : (H : Type) → List (DataW H) → Bool := fun _ ds => decide (uptoBulkAll ds ≤ 1048576)
def OpenSpec.upto (s : _root_.Go.ChangeSpec) : _root_.Go.OpenSpec := { _root_.Go.OpenSpec.ofChange s with cond := some uptoSmall }

/-- 'firkinlaw13.BufferOrders', WHERE WHAT IT READS IS OF BULK AT MOST 1048576: true; the input reads as it did. -/
def bufferOrdersUptoRow : OpenClaim := { program := "ytcejapdjkkmkaaa", sum := "be147735d00239f96eeeb95bb830cccc7b1b4c91bd48c49ae88ef9e4d2ab7c07", func := "firkin/firkinlaw13.BufferOrders", spec := "bufferOrders", apart := false, narrowed := true }
def BufferOrdersUptoSaid : Prop := bufferOrdersUptoRow.holds Try.pinned (OpenSpec.upto bufferOrdersSpec)

/-- 'firkinlaw13.BufferBounds', WHERE WHAT IT READS IS OF BULK AT MOST 1048576: true; the input reads as it did. -/
def bufferBoundsUptoRow : OpenClaim := { program := "ytcejapdjkkmkaaa", sum := "be147735d00239f96eeeb95bb830cccc7b1b4c91bd48c49ae88ef9e4d2ab7c07", func := "firkin/firkinlaw13.BufferBounds", spec := "bufferBounds", apart := false, narrowed := true }
def BufferBoundsUptoSaid : Prop := bufferBoundsUptoRow.holds Try.pinned (OpenSpec.upto bufferBoundsSpec)

/-- 'firkinlaw13.BufferPlays', WHERE WHAT IT READS IS OF BULK AT MOST 1048576: true; the input reads as it did. -/
def bufferPlaysUptoRow : OpenClaim := { program := "ytcejapdjkkmkaaa", sum := "be147735d00239f96eeeb95bb830cccc7b1b4c91bd48c49ae88ef9e4d2ab7c07", func := "firkin/firkinlaw13.BufferPlays", spec := "bufferPlays", apart := false, narrowed := true }
def BufferPlaysUptoSaid : Prop := bufferPlaysUptoRow.holds Try.pinned (OpenSpec.upto bufferPlaysSpec)

/-- 'firkinlaw13.BufferNewer', WHERE WHAT IT READS IS OF BULK AT MOST 1048576: true; the input reads as it did. -/
def bufferNewerUptoRow : OpenClaim := { program := "ytcejapdjkkmkaaa", sum := "be147735d00239f96eeeb95bb830cccc7b1b4c91bd48c49ae88ef9e4d2ab7c07", func := "firkin/firkinlaw13.BufferNewer", spec := "bufferNewer", apart := false, narrowed := true }
def BufferNewerUptoSaid : Prop := bufferNewerUptoRow.holds Try.pinned (OpenSpec.upto bufferNewerSpec)

end Rows
end Go.Proofs.Ytcejapdjkkmkaaa
