/-
  No cell of these rows narrows 'for every input' (looked for: loops, veiled, ifaces, maps, wideKeys, modest, calm, conditions, laid).
  DERIVED. THE GIVEN ROWS OF THIS SEAT. 4 by the template 'for every input the law returns true; each argument reads behind the call as it read before'; 0 by the template 'total and deterministic' (their statements: YtmdgbcbnciaikaaTotals.lean).
  GIVEN WITH THE SEED: the statements are not yours to turn. If you find one false, say at which input.
  Laid BY PROGRAM, IN A SANDBOX (cutbox-rows.mjs): the forced cells as the released guide's own fill.sh prints them over the translation d0ea41be6dc6e70e… (all of the seat's roots in one cut). By AI agents, Wed Nov 11 2026. No macro, syntax, notation, axiom, sorry.
-/
import Derived.Test.YtmdgbcbnciaikaaChecked
import GoSem.Claim
import GoSem.ClaimJoined
import GoSem.ClaimMapViews
import Derived.JoinedTies
import Derived.KernelRfl
namespace Go.Proofs.Ytmdgbcbnciaikaa
/- THE CELL 'sum', in the pinned program and in every row, IS THE sha256 OF THE DUMP (.gsa) THAT YtmdgbcbnciaikaaProg.lean LOADS. Nothing in Lean hashes anything: it is a label: what it is worth is what the hold of that sum in a sandbox is worth. -/
noncomputable def Try.pinned : Pinned := { name := "ytmdgbcbnciaikaa", sum := "d0ea41be6dc6e70e85ba112dfa022b0825f4f970bca97b526ae175c93a66fa31", checked := Try.checked }
namespace Rows
def none {H : Type} : Left H := { results := [], args := [] }

/-- 'firkinlaw14.SpaceApart': WHATEVER THE INPUT: true; the input reads as it did. -/
def spaceApartSpec : ChangeSpec := { name := "spaceApart", fn := fun _ => fun
  | [d1, d2, d3] => { results := [.lit (.bool true)], args := [d1, d2, d3] }
  | _ => none }
def spaceApartRow : OpenClaim := { program := "ytmdgbcbnciaikaa", sum := "d0ea41be6dc6e70e85ba112dfa022b0825f4f970bca97b526ae175c93a66fa31", func := "firkin/firkinlaw14.SpaceApart", spec := "spaceApart", unfollowed := true, recurses := true, apart := false }
def SpaceApartSaid : Prop := spaceApartRow.holds Try.pinned (OpenSpec.ofChange spaceApartSpec)

/-- ITS FALSE NEIGHBOUR: 'it returns false'. Refute it at one input. -/
def spaceApartWrong : ChangeSpec := { name := "spaceApart", fn := fun _ => fun
  | [d1, d2, d3] => { results := [.lit (.bool false)], args := [d1, d2, d3] }
  | _ => none }
def SpaceApartWrongFalsely : Prop := spaceApartRow.holds Try.pinned (OpenSpec.ofChange spaceApartWrong)

/-- 'firkinlaw14.SpaceFirst': WHATEVER THE INPUT: true; the input reads as it did. -/
def spaceFirstSpec : ChangeSpec := { name := "spaceFirst", fn := fun _ => fun
  | [d1, d2, d3] => { results := [.lit (.bool true)], args := [d1, d2, d3] }
  | _ => none }
def spaceFirstRow : OpenClaim := { program := "ytmdgbcbnciaikaa", sum := "d0ea41be6dc6e70e85ba112dfa022b0825f4f970bca97b526ae175c93a66fa31", func := "firkin/firkinlaw14.SpaceFirst", spec := "spaceFirst", unfollowed := true, recurses := true, apart := false }
def SpaceFirstSaid : Prop := spaceFirstRow.holds Try.pinned (OpenSpec.ofChange spaceFirstSpec)

/-- ITS FALSE NEIGHBOUR: 'it returns false'. Refute it at one input. -/
def spaceFirstWrong : ChangeSpec := { name := "spaceFirst", fn := fun _ => fun
  | [d1, d2, d3] => { results := [.lit (.bool false)], args := [d1, d2, d3] }
  | _ => none }
def SpaceFirstWrongFalsely : Prop := spaceFirstRow.holds Try.pinned (OpenSpec.ofChange spaceFirstWrong)

/-- 'firkinlaw14.SpacePlays': WHATEVER THE INPUT: true; the input reads as it did. -/
def spacePlaysSpec : ChangeSpec := { name := "spacePlays", fn := fun _ => fun
  | [d1, d2] => { results := [.lit (.bool true)], args := [d1, d2] }
  | _ => none }
def spacePlaysRow : OpenClaim := { program := "ytmdgbcbnciaikaa", sum := "d0ea41be6dc6e70e85ba112dfa022b0825f4f970bca97b526ae175c93a66fa31", func := "firkin/firkinlaw14.SpacePlays", spec := "spacePlays", unfollowed := true, recurses := true, apart := false }
def SpacePlaysSaid : Prop := spacePlaysRow.holds Try.pinned (OpenSpec.ofChange spacePlaysSpec)

/-- ITS FALSE NEIGHBOUR: 'it returns false'. Refute it at one input. -/
def spacePlaysWrong : ChangeSpec := { name := "spacePlays", fn := fun _ => fun
  | [d1, d2] => { results := [.lit (.bool false)], args := [d1, d2] }
  | _ => none }
def SpacePlaysWrongFalsely : Prop := spacePlaysRow.holds Try.pinned (OpenSpec.ofChange spacePlaysWrong)

/-- 'firkinlaw14.SpaceAgain': WHATEVER THE INPUT: true; the input reads as it did. -/
def spaceAgainSpec : ChangeSpec := { name := "spaceAgain", fn := fun _ => fun
  | [d1, d2, d3] => { results := [.lit (.bool true)], args := [d1, d2, d3] }
  | _ => none }
def spaceAgainRow : OpenClaim := { program := "ytmdgbcbnciaikaa", sum := "d0ea41be6dc6e70e85ba112dfa022b0825f4f970bca97b526ae175c93a66fa31", func := "firkin/firkinlaw14.SpaceAgain", spec := "spaceAgain", unfollowed := true, recurses := true, apart := false }
def SpaceAgainSaid : Prop := spaceAgainRow.holds Try.pinned (OpenSpec.ofChange spaceAgainSpec)

/-- ITS FALSE NEIGHBOUR: 'it returns false'. Refute it at one input. -/
def spaceAgainWrong : ChangeSpec := { name := "spaceAgain", fn := fun _ => fun
  | [d1, d2, d3] => { results := [.lit (.bool false)], args := [d1, d2, d3] }
  | _ => none }
def SpaceAgainWrongFalsely : Prop := spaceAgainRow.holds Try.pinned (OpenSpec.ofChange spaceAgainWrong)

/- THE SECOND FORM. 'bulk': how many values and letters a reading holds, each counted each time it is reached (what is shared counts as often as it is met; a slice's spare places count too). A statement '..UptoSaid' is the law's where the arguments, and the package variables that the reading takes, are together of bulk at most 1048576: NARROWER than '..Said'. Prove '..Said' where nothing that the law and all that it calls make is longer than what came in: it says more and counts as full. Else prove '..UptoSaid'. A law counts once. -/
mutual
def uptoBulk {H : Type} : DataW H → Nat
  | .lit (.string bytes) => bytes.length + 1
  | .lit _ => 1
  | .nil => 1
  | .ptr d => uptoBulk d + 1
  | .slice elems spare => uptoBulkAll elems + uptoBulkAll spare + 1
  | .agg parts => uptoBulkAll parts + 1
  | .iface _ d => uptoBulk d + 1
  | .map entries => uptoBulkEntries entries + 1
  | .held _ => 1
def uptoBulkAll {H : Type} : List (DataW H) → Nat
  | [] => 0
  | d :: r => uptoBulk d + uptoBulkAll r
def uptoBulkEntries {H : Type} : List (Lit × DataW H) → Nat
  | [] => 0
  | x :: r => uptoBulkEntry x + uptoBulkEntries r
def uptoBulkEntry {H : Type} : Lit × DataW H → Nat
  | (.string bytes, d) => bytes.length + uptoBulk d + 1
  | (_, d) => uptoBulk d + 1
 end
def uptoSmall : (H : Type) → List (DataW H) → Bool := fun _ ds => decide (uptoBulkAll ds ≤ 1048576)
def OpenSpec.upto (s : _root_.Go.ChangeSpec) : _root_.Go.OpenSpec := { _root_.Go.OpenSpec.ofChange s with cond := some uptoSmall }

/-- 'firkinlaw14.SpaceApart', WHERE WHAT IT READS IS OF BULK AT MOST 1048576: true; the input reads as it did. -/
def spaceApartUptoRow : OpenClaim := { program := "ytmdgbcbnciaikaa", sum := "d0ea41be6dc6e70e85ba112dfa022b0825f4f970bca97b526ae175c93a66fa31", func := "firkin/firkinlaw14.SpaceApart", spec := "spaceApart", unfollowed := true, recurses := true, apart := false, narrowed := true }
def SpaceApartUptoSaid : Prop := spaceApartUptoRow.holds Try.pinned (OpenSpec.upto spaceApartSpec)

/-- 'firkinlaw14.SpaceFirst', WHERE WHAT IT READS IS OF BULK AT MOST 1048576: true; the input reads as it did. -/
def spaceFirstUptoRow : OpenClaim := { program := "ytmdgbcbnciaikaa", sum := "d0ea41be6dc6e70e85ba112dfa022b0825f4f970bca97b526ae175c93a66fa31", func := "firkin/firkinlaw14.SpaceFirst", spec := "spaceFirst", unfollowed := true, recurses := true, apart := false, narrowed := true }
def SpaceFirstUptoSaid : Prop := spaceFirstUptoRow.holds Try.pinned (OpenSpec.upto spaceFirstSpec)

/-- 'firkinlaw14.SpacePlays', WHERE WHAT IT READS IS OF BULK AT MOST 1048576: true; the input reads as it did. -/
def spacePlaysUptoRow : OpenClaim := { program := "ytmdgbcbnciaikaa", sum := "d0ea41be6dc6e70e85ba112dfa022b0825f4f970bca97b526ae175c93a66fa31", func := "firkin/firkinlaw14.SpacePlays", spec := "spacePlays", unfollowed := true, recurses := true, apart := false, narrowed := true }
def SpacePlaysUptoSaid : Prop := spacePlaysUptoRow.holds Try.pinned (OpenSpec.upto spacePlaysSpec)

/-- 'firkinlaw14.SpaceAgain', WHERE WHAT IT READS IS OF BULK AT MOST 1048576: true; the input reads as it did. -/
def spaceAgainUptoRow : OpenClaim := { program := "ytmdgbcbnciaikaa", sum := "d0ea41be6dc6e70e85ba112dfa022b0825f4f970bca97b526ae175c93a66fa31", func := "firkin/firkinlaw14.SpaceAgain", spec := "spaceAgain", unfollowed := true, recurses := true, apart := false, narrowed := true }
def SpaceAgainUptoSaid : Prop := spaceAgainUptoRow.holds Try.pinned (OpenSpec.upto spaceAgainSpec)

end Rows
end Go.Proofs.Ytmdgbcbnciaikaa
