/-
  No cell of these rows narrows 'for every input' (looked for: loops, veiled, ifaces, maps, wideKeys, modest, calm, conditions, laid).
  DERIVED. THE GIVEN ROWS OF THIS SEAT. 4 by the template 'for every input the law returns true; each argument reads behind the call as it read before'; 0 by the template 'total and deterministic' (their statements: YtikofabijdkbjaaTotals.lean).
  GIVEN WITH THE SEED: the statements are not yours to turn. If you find one false, say at which input.
  Laid BY PROGRAM, IN A SANDBOX (cutbox-rows.mjs): the forced cells as the released guide's own fill.sh prints them over the translation 5c7370dea4c01a73… (all of the seat's roots in one cut). By AI agents, Wed Nov 11 2026. No macro, syntax, notation, axiom, sorry.
-/
import Derived.Test.YtikofabijdkbjaaChecked
import GoSem.Claim
import GoSem.ClaimJoined
import GoSem.ClaimMapViews
import Derived.JoinedTies
import Derived.KernelRfl
namespace Go.Proofs.Ytikofabijdkbjaa
/- THE CELL 'sum', in the pinned program and in every row, IS THE sha256 OF THE DUMP (.gsa) THAT YtikofabijdkbjaaProg.lean LOADS. Nothing in Lean hashes anything: it is a label: what it is worth is what the hold of that sum in a sandbox is worth. -/
noncomputable def Try.pinned : Pinned := { name := "ytikofabijdkbjaa", sum := "5c7370dea4c01a73be9a1e320cb69a6b798b659391ee0ccd239787470d213a75", checked := Try.checked }
namespace Rows
def none {H : Type} : Left H := { results := [], args := [] }

/-- 'firkinlaw18.ArbiterPlays': WHATEVER THE INPUT: true; the input reads as it did. -/
def arbiterPlaysSpec : ChangeSpec := { name := "arbiterPlays", fn := fun _ => fun
  | [d1, d2] => { results := [.lit (.bool true)], args := [d1, d2] }
  | _ => none }
def arbiterPlaysRow : OpenClaim := { program := "ytikofabijdkbjaa", sum := "5c7370dea4c01a73be9a1e320cb69a6b798b659391ee0ccd239787470d213a75", func := "firkin/firkinlaw18.ArbiterPlays", spec := "arbiterPlays", unfollowed := true, recurses := true, apart := false }
def ArbiterPlaysSaid : Prop := arbiterPlaysRow.holds Try.pinned (OpenSpec.ofChange arbiterPlaysSpec)

/-- ITS FALSE NEIGHBOUR: 'it returns false'. Refute it at one input. -/
def arbiterPlaysWrong : ChangeSpec := { name := "arbiterPlays", fn := fun _ => fun
  | [d1, d2] => { results := [.lit (.bool false)], args := [d1, d2] }
  | _ => none }
def ArbiterPlaysWrongFalsely : Prop := arbiterPlaysRow.holds Try.pinned (OpenSpec.ofChange arbiterPlaysWrong)

/-- 'firkinlaw18.ArbiterFair': WHATEVER THE INPUT: true; the input reads as it did. -/
def arbiterFairSpec : ChangeSpec := { name := "arbiterFair", fn := fun _ => fun
  | [d1, d2, d3] => { results := [.lit (.bool true)], args := [d1, d2, d3] }
  | _ => none }
def arbiterFairRow : OpenClaim := { program := "ytikofabijdkbjaa", sum := "5c7370dea4c01a73be9a1e320cb69a6b798b659391ee0ccd239787470d213a75", func := "firkin/firkinlaw18.ArbiterFair", spec := "arbiterFair", unfollowed := true, recurses := true, apart := false }
def ArbiterFairSaid : Prop := arbiterFairRow.holds Try.pinned (OpenSpec.ofChange arbiterFairSpec)

/-- ITS FALSE NEIGHBOUR: 'it returns false'. Refute it at one input. -/
def arbiterFairWrong : ChangeSpec := { name := "arbiterFair", fn := fun _ => fun
  | [d1, d2, d3] => { results := [.lit (.bool false)], args := [d1, d2, d3] }
  | _ => none }
def ArbiterFairWrongFalsely : Prop := arbiterFairRow.holds Try.pinned (OpenSpec.ofChange arbiterFairWrong)

/-- 'firkinlaw18.ArbiterBursts': WHATEVER THE INPUT: true; the input reads as it did. -/
def arbiterBurstsSpec : ChangeSpec := { name := "arbiterBursts", fn := fun _ => fun
  | [d1, d2] => { results := [.lit (.bool true)], args := [d1, d2] }
  | _ => none }
def arbiterBurstsRow : OpenClaim := { program := "ytikofabijdkbjaa", sum := "5c7370dea4c01a73be9a1e320cb69a6b798b659391ee0ccd239787470d213a75", func := "firkin/firkinlaw18.ArbiterBursts", spec := "arbiterBursts", unfollowed := true, recurses := true, apart := false }
def ArbiterBurstsSaid : Prop := arbiterBurstsRow.holds Try.pinned (OpenSpec.ofChange arbiterBurstsSpec)

/-- ITS FALSE NEIGHBOUR: 'it returns false'. Refute it at one input. -/
def arbiterBurstsWrong : ChangeSpec := { name := "arbiterBursts", fn := fun _ => fun
  | [d1, d2] => { results := [.lit (.bool false)], args := [d1, d2] }
  | _ => none }
def ArbiterBurstsWrongFalsely : Prop := arbiterBurstsRow.holds Try.pinned (OpenSpec.ofChange arbiterBurstsWrong)

/-- 'firkinlaw18.ArbiterAlone': WHATEVER THE INPUT: true; the input reads as it did. -/
def arbiterAloneSpec : ChangeSpec := { name := "arbiterAlone", fn := fun _ => fun
  | [d1, d2] => { results := [.lit (.bool true)], args := [d1, d2] }
  | _ => none }
def arbiterAloneRow : OpenClaim := { program := "ytikofabijdkbjaa", sum := "5c7370dea4c01a73be9a1e320cb69a6b798b659391ee0ccd239787470d213a75", func := "firkin/firkinlaw18.ArbiterAlone", spec := "arbiterAlone", unfollowed := true, recurses := true, apart := false }
def ArbiterAloneSaid : Prop := arbiterAloneRow.holds Try.pinned (OpenSpec.ofChange arbiterAloneSpec)

/-- ITS FALSE NEIGHBOUR: 'it returns false'. Refute it at one input. -/
def arbiterAloneWrong : ChangeSpec := { name := "arbiterAlone", fn := fun _ => fun
  | [d1, d2] => { results := [.lit (.bool false)], args := [d1, d2] }
  | _ => none }
def ArbiterAloneWrongFalsely : Prop := arbiterAloneRow.holds Try.pinned (OpenSpec.ofChange arbiterAloneWrong)

/- THE SECOND FORM. 'bulk': how many values and letters a reading holds, each counted each time it is reached (what is shared counts as often as it is met; a slice's spare places count too). A statement '..UptoSaid' is the law's where the arguments, and the package variables that the reading takes, are together of bulk at most 1048576: NARROWER than '..Said'. Prove '..Said' where nothing that the law and all that it calls make is longer than what came in: it says more and counts as full. Else prove '..UptoSaid'. A law counts once. -/
mutual
def uptoBulk {H : Type} : DataW H → Nat
  | .lit (.string bytes) => bytes.length + 1
  | .lit _ => 1
  | .nil => 1
  | .ptr d => uptoBulk d + 1
  | .slice elems spare => uptoBulkAll elems + uptoBulkAll spare + 1
  | .agg parts => uptoBulkAll parts + 1
  | .iface _ d => uptoBulk d + 1
  | .map entries => uptoBulkEntries entries + 1
  | .held _ => 1
def uptoBulkAll {H : Type} : List (DataW H) → Nat
  | [] => 0
  | d :: r => uptoBulk d + uptoBulkAll r
def uptoBulkEntries {H : Type} : List (Lit × DataW H) → Nat
  | [] => 0
  | x :: r => uptoBulkEntry x + uptoBulkEntries r
def uptoBulkEntry {H : Type} : Lit × DataW H → Nat
  | (.string bytes, d) => bytes.length + uptoBulk d + 1
  | (_, d) => uptoBulk d + 1
 end
def uptoSmall : (H : Type) → List (DataW H) → Bool := fun _ ds => decide (uptoBulkAll ds ≤ 1048576)
def OpenSpec.upto (s : _root_.Go.ChangeSpec) : _root_.Go.OpenSpec := { _root_.Go.OpenSpec.ofChange s with cond := some uptoSmall }

/-- 'firkinlaw18.ArbiterPlays', WHERE WHAT IT READS IS OF BULK AT MOST 1048576: true; the input reads as it did. -/
def arbiterPlaysUptoRow : OpenClaim := { program := "ytikofabijdkbjaa", sum := "5c7370dea4c01a73be9a1e320cb69a6b798b659391ee0ccd239787470d213a75", func := "firkin/firkinlaw18.ArbiterPlays", spec := "arbiterPlays", unfollowed := true, recurses := true, apart := false, narrowed := true }
def ArbiterPlaysUptoSaid : Prop := arbiterPlaysUptoRow.holds Try.pinned (OpenSpec.upto arbiterPlaysSpec)

/-- 'firkinlaw18.ArbiterFair', WHERE WHAT IT READS IS OF BULK AT MOST 1048576: true; the input reads as it did. -/
def arbiterFairUptoRow : OpenClaim := { program := "ytikofabijdkbjaa", sum := "5c7370dea4c01a73be9a1e320cb69a6b798b659391ee0ccd239787470d213a75", func := "firkin/firkinlaw18.ArbiterFair", spec := "arbiterFair", unfollowed := true, recurses := true, apart := false, narrowed := true }
def ArbiterFairUptoSaid : Prop := arbiterFairUptoRow.holds Try.pinned (OpenSpec.upto arbiterFairSpec)

/-- 'firkinlaw18.ArbiterBursts', WHERE WHAT IT READS IS OF BULK AT MOST 1048576: true; the input reads as it did. -/
def arbiterBurstsUptoRow : OpenClaim := { program := "ytikofabijdkbjaa", sum := "5c7370dea4c01a73be9a1e320cb69a6b798b659391ee0ccd239787470d213a75", func := "firkin/firkinlaw18.ArbiterBursts", spec := "arbiterBursts", unfollowed := true, recurses := true, apart := false, narrowed := true }
def ArbiterBurstsUptoSaid : Prop := arbiterBurstsUptoRow.holds Try.pinned (OpenSpec.upto arbiterBurstsSpec)

/-- 'firkinlaw18.ArbiterAlone', WHERE WHAT IT READS IS OF BULK AT MOST 1048576: true; the input reads as it did. -/
def arbiterAloneUptoRow : OpenClaim := { program := "ytikofabijdkbjaa", sum := "5c7370dea4c01a73be9a1e320cb69a6b798b659391ee0ccd239787470d213a75", func := "firkin/firkinlaw18.ArbiterAlone", spec := "arbiterAlone", unfollowed := true, recurses := true, apart := false, narrowed := true }
def ArbiterAloneUptoSaid : Prop := arbiterAloneUptoRow.holds Try.pinned (OpenSpec.upto arbiterAloneSpec)

end Rows
end Go.Proofs.Ytikofabijdkbjaa
