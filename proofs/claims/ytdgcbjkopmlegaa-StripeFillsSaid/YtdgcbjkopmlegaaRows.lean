/-
  No cell of these rows narrows 'for every input' (looked for: loops, veiled, ifaces, maps, wideKeys, modest, calm, conditions, laid).
  DERIVED. THE GIVEN ROWS OF THIS SEAT. 6 by the template 'for every input the law returns true; each argument reads behind the call as it read before'; 0 by the template 'total and deterministic' (their statements: YtdgcbjkopmlegaaTotals.lean).
  GIVEN WITH THE SEED: the statements are not yours to turn. If you find one false, say at which input.
  Laid BY PROGRAM, IN A SANDBOX (cutbox-rows.mjs): the forced cells as the released guide's own fill.sh prints them over the translation 06dc20bf4ac92cba… (all of the seat's roots in one cut). By AI agents, Wed Nov 11 2026. No macro, syntax, notation, axiom, sorry.
-/
import Derived.Test.YtdgcbjkopmlegaaChecked
import GoSem.Claim
import GoSem.ClaimJoined
import GoSem.ClaimMapViews
import Derived.JoinedTies
import Derived.KernelRfl
namespace Go.Proofs.Ytdgcbjkopmlegaa
/- THE CELL 'sum', in the pinned program and in every row, IS THE sha256 OF THE DUMP (.gsa) THAT YtdgcbjkopmlegaaProg.lean LOADS. Nothing in Lean hashes anything: it is a label: what it is worth is what the hold of that sum in a sandbox is worth. -/
noncomputable def Try.pinned : Pinned := { name := "ytdgcbjkopmlegaa", sum := "06dc20bf4ac92cbaab8ebe99c80c6bd334a8c80648fec1b2fd077d903c6b6ba2", checked := Try.checked }
namespace Rows
def none {H : Type} : Left H := { results := [], args := [] }

/-- 'firkinlaw06.StripePlaces': WHATEVER THE INPUT: true; the input reads as it did. -/
def stripePlacesSpec : ChangeSpec := { name := "stripePlaces", fn := fun _ => fun
  | [d1, d2] => { results := [.lit (.bool true)], args := [d1, d2] }
  | _ => none }
def stripePlacesRow : OpenClaim := { program := "ytdgcbjkopmlegaa", sum := "06dc20bf4ac92cbaab8ebe99c80c6bd334a8c80648fec1b2fd077d903c6b6ba2", func := "firkin/firkinlaw06.StripePlaces", spec := "stripePlaces", unfollowed := true, recurses := true, apart := false }
def StripePlacesSaid : Prop := stripePlacesRow.holds Try.pinned (OpenSpec.ofChange stripePlacesSpec)

/-- ITS FALSE NEIGHBOUR: 'it returns false'. Refute it at one input. -/
def stripePlacesWrong : ChangeSpec := { name := "stripePlaces", fn := fun _ => fun
  | [d1, d2] => { results := [.lit (.bool false)], args := [d1, d2] }
  | _ => none }
def StripePlacesWrongFalsely : Prop := stripePlacesRow.holds Try.pinned (OpenSpec.ofChange stripePlacesWrong)

/-- 'firkinlaw06.StripeTurned': WHATEVER THE INPUT: true; the input reads as it did. -/
def stripeTurnedSpec : ChangeSpec := { name := "stripeTurned", fn := fun _ => fun
  | [d1, d2, d3] => { results := [.lit (.bool true)], args := [d1, d2, d3] }
  | _ => none }
def stripeTurnedRow : OpenClaim := { program := "ytdgcbjkopmlegaa", sum := "06dc20bf4ac92cbaab8ebe99c80c6bd334a8c80648fec1b2fd077d903c6b6ba2", func := "firkin/firkinlaw06.StripeTurned", spec := "stripeTurned", unfollowed := true, recurses := true, apart := false }
def StripeTurnedSaid : Prop := stripeTurnedRow.holds Try.pinned (OpenSpec.ofChange stripeTurnedSpec)

/-- ITS FALSE NEIGHBOUR: 'it returns false'. Refute it at one input. -/
def stripeTurnedWrong : ChangeSpec := { name := "stripeTurned", fn := fun _ => fun
  | [d1, d2, d3] => { results := [.lit (.bool false)], args := [d1, d2, d3] }
  | _ => none }
def StripeTurnedWrongFalsely : Prop := stripeTurnedRow.holds Try.pinned (OpenSpec.ofChange stripeTurnedWrong)

/-- 'firkinlaw06.StripeNone': WHATEVER THE INPUT: true; the input reads as it did. -/
def stripeNoneSpec : ChangeSpec := { name := "stripeNone", fn := fun _ => fun
  | [d1, d2] => { results := [.lit (.bool true)], args := [d1, d2] }
  | _ => none }
def stripeNoneRow : OpenClaim := { program := "ytdgcbjkopmlegaa", sum := "06dc20bf4ac92cbaab8ebe99c80c6bd334a8c80648fec1b2fd077d903c6b6ba2", func := "firkin/firkinlaw06.StripeNone", spec := "stripeNone", unfollowed := true, recurses := true, apart := false }
def StripeNoneSaid : Prop := stripeNoneRow.holds Try.pinned (OpenSpec.ofChange stripeNoneSpec)

/-- ITS FALSE NEIGHBOUR: 'it returns false'. Refute it at one input. -/
def stripeNoneWrong : ChangeSpec := { name := "stripeNone", fn := fun _ => fun
  | [d1, d2] => { results := [.lit (.bool false)], args := [d1, d2] }
  | _ => none }
def StripeNoneWrongFalsely : Prop := stripeNoneRow.holds Try.pinned (OpenSpec.ofChange stripeNoneWrong)

/-- 'firkinlaw06.StripeSums': WHATEVER THE INPUT: true; the input reads as it did. -/
def stripeSumsSpec : ChangeSpec := { name := "stripeSums", fn := fun _ => fun
  | [d1, d2, d3] => { results := [.lit (.bool true)], args := [d1, d2, d3] }
  | _ => none }
def stripeSumsRow : OpenClaim := { program := "ytdgcbjkopmlegaa", sum := "06dc20bf4ac92cbaab8ebe99c80c6bd334a8c80648fec1b2fd077d903c6b6ba2", func := "firkin/firkinlaw06.StripeSums", spec := "stripeSums", unfollowed := true, recurses := true, apart := false }
def StripeSumsSaid : Prop := stripeSumsRow.holds Try.pinned (OpenSpec.ofChange stripeSumsSpec)

/-- ITS FALSE NEIGHBOUR: 'it returns false'. Refute it at one input. -/
def stripeSumsWrong : ChangeSpec := { name := "stripeSums", fn := fun _ => fun
  | [d1, d2, d3] => { results := [.lit (.bool false)], args := [d1, d2, d3] }
  | _ => none }
def StripeSumsWrongFalsely : Prop := stripeSumsRow.holds Try.pinned (OpenSpec.ofChange stripeSumsWrong)

/-- 'firkinlaw06.StripeFills': WHATEVER THE INPUT: true; the input reads as it did. -/
def stripeFillsSpec : ChangeSpec := { name := "stripeFills", fn := fun _ => fun
  | [d1, d2, d3, d4] => { results := [.lit (.bool true)], args := [d1, d2, d3, d4] }
  | _ => none }
def stripeFillsRow : OpenClaim := { program := "ytdgcbjkopmlegaa", sum := "06dc20bf4ac92cbaab8ebe99c80c6bd334a8c80648fec1b2fd077d903c6b6ba2", func := "firkin/firkinlaw06.StripeFills", spec := "stripeFills", unfollowed := true, recurses := true, apart := false }
def StripeFillsSaid : Prop := stripeFillsRow.holds Try.pinned (OpenSpec.ofChange stripeFillsSpec)

/-- ITS FALSE NEIGHBOUR: 'it returns false'. Refute it at one input. -/
def stripeFillsWrong : ChangeSpec := { name := "stripeFills", fn := fun _ => fun
  | [d1, d2, d3, d4] => { results := [.lit (.bool false)], args := [d1, d2, d3, d4] }
  | _ => none }
def StripeFillsWrongFalsely : Prop := stripeFillsRow.holds Try.pinned (OpenSpec.ofChange stripeFillsWrong)

/-- 'firkinlaw06.StripeMends': WHATEVER THE INPUT: true; the input reads as it did. -/
def stripeMendsSpec : ChangeSpec := { name := "stripeMends", fn := fun _ => fun
  | [d1, d2, d3, d4] => { results := [.lit (.bool true)], args := [d1, d2, d3, d4] }
  | _ => none }
def stripeMendsRow : OpenClaim := { program := "ytdgcbjkopmlegaa", sum := "06dc20bf4ac92cbaab8ebe99c80c6bd334a8c80648fec1b2fd077d903c6b6ba2", func := "firkin/firkinlaw06.StripeMends", spec := "stripeMends", unfollowed := true, recurses := true, apart := false }
def StripeMendsSaid : Prop := stripeMendsRow.holds Try.pinned (OpenSpec.ofChange stripeMendsSpec)

/-- ITS FALSE NEIGHBOUR: 'it returns false'. Refute it at one input. -/
def stripeMendsWrong : ChangeSpec := { name := "stripeMends", fn := fun _ => fun
  | [d1, d2, d3, d4] => { results := [.lit (.bool false)], args := [d1, d2, d3, d4] }
  | _ => none }
def StripeMendsWrongFalsely : Prop := stripeMendsRow.holds Try.pinned (OpenSpec.ofChange stripeMendsWrong)

/- THE SECOND FORM. 'bulk': how many values and letters a reading holds, each counted each time it is reached (what is shared counts as often as it is met; a slice's spare places count too). A statement '..UptoSaid' is the law's where the arguments, and the package variables that the reading takes, are together of bulk at most 1048576: NARROWER than '..Said'. Prove '..Said' where nothing that the law and all that it calls make is longer than what came in: it says more and counts as full. Else prove '..UptoSaid'. A law counts once. -/
mutual
def uptoBulk {H : Type} : DataW H → Nat
  | .lit (.string bytes) => bytes.length + 1
  | .lit _ => 1
  | .nil => 1
  | .ptr d => uptoBulk d + 1
  | .slice elems spare => uptoBulkAll elems + uptoBulkAll spare + 1
  | .agg parts => uptoBulkAll parts + 1
  | .iface _ d => uptoBulk d + 1
  | .map entries => uptoBulkEntries entries + 1
  | .held _ => 1
def uptoBulkAll {H : Type} : List (DataW H) → Nat
  | [] => 0
  | d :: r => uptoBulk d + uptoBulkAll r
def uptoBulkEntries {H : Type} : List (Lit × DataW H) → Nat
  | [] => 0
  | x :: r => uptoBulkEntry x + uptoBulkEntries r
def uptoBulkEntry {H : Type} : Lit × DataW H → Nat
  | (.string bytes, d) => bytes.length + uptoBulk d + 1
  | (_, d) => uptoBulk d + 1
 end
def uptoSmall : (H : Type) → List (DataW H) → Bool := fun _ ds => decide (uptoBulkAll ds ≤ 1048576)
def OpenSpec.upto (s : _root_.Go.ChangeSpec) : _root_.Go.OpenSpec := { _root_.Go.OpenSpec.ofChange s with cond := some uptoSmall }

/-- 'firkinlaw06.StripePlaces', WHERE WHAT IT READS IS OF BULK AT MOST 1048576: true; the input reads as it did. -/
def stripePlacesUptoRow : OpenClaim := { program := "ytdgcbjkopmlegaa", sum := "06dc20bf4ac92cbaab8ebe99c80c6bd334a8c80648fec1b2fd077d903c6b6ba2", func := "firkin/firkinlaw06.StripePlaces", spec := "stripePlaces", unfollowed := true, recurses := true, apart := false, narrowed := true }
def StripePlacesUptoSaid : Prop := stripePlacesUptoRow.holds Try.pinned (OpenSpec.upto stripePlacesSpec)

/-- 'firkinlaw06.StripeTurned', WHERE WHAT IT READS IS OF BULK AT MOST 1048576: true; the input reads as it did. -/
def stripeTurnedUptoRow : OpenClaim := { program := "ytdgcbjkopmlegaa", sum := "06dc20bf4ac92cbaab8ebe99c80c6bd334a8c80648fec1b2fd077d903c6b6ba2", func := "firkin/firkinlaw06.StripeTurned", spec := "stripeTurned", unfollowed := true, recurses := true, apart := false, narrowed := true }
def StripeTurnedUptoSaid : Prop := stripeTurnedUptoRow.holds Try.pinned (OpenSpec.upto stripeTurnedSpec)

/-- 'firkinlaw06.StripeNone', WHERE WHAT IT READS IS OF BULK AT MOST 1048576: true; the input reads as it did. -/
def stripeNoneUptoRow : OpenClaim := { program := "ytdgcbjkopmlegaa", sum := "06dc20bf4ac92cbaab8ebe99c80c6bd334a8c80648fec1b2fd077d903c6b6ba2", func := "firkin/firkinlaw06.StripeNone", spec := "stripeNone", unfollowed := true, recurses := true, apart := false, narrowed := true }
def StripeNoneUptoSaid : Prop := stripeNoneUptoRow.holds Try.pinned (OpenSpec.upto stripeNoneSpec)

/-- 'firkinlaw06.StripeSums', WHERE WHAT IT READS IS OF BULK AT MOST 1048576: true; the input reads as it did. -/
def stripeSumsUptoRow : OpenClaim := { program := "ytdgcbjkopmlegaa", sum := "06dc20bf4ac92cbaab8ebe99c80c6bd334a8c80648fec1b2fd077d903c6b6ba2", func := "firkin/firkinlaw06.StripeSums", spec := "stripeSums", unfollowed := true, recurses := true, apart := false, narrowed := true }
def StripeSumsUptoSaid : Prop := stripeSumsUptoRow.holds Try.pinned (OpenSpec.upto stripeSumsSpec)

/-- 'firkinlaw06.StripeFills', WHERE WHAT IT READS IS OF BULK AT MOST 1048576: true; the input reads as it did. -/
def stripeFillsUptoRow : OpenClaim := { program := "ytdgcbjkopmlegaa", sum := "06dc20bf4ac92cbaab8ebe99c80c6bd334a8c80648fec1b2fd077d903c6b6ba2", func := "firkin/firkinlaw06.StripeFills", spec := "stripeFills", unfollowed := true, recurses := true, apart := false, narrowed := true }
def StripeFillsUptoSaid : Prop := stripeFillsUptoRow.holds Try.pinned (OpenSpec.upto stripeFillsSpec)

/-- 'firkinlaw06.StripeMends', WHERE WHAT IT READS IS OF BULK AT MOST 1048576: true; the input reads as it did. -/
def stripeMendsUptoRow : OpenClaim := { program := "ytdgcbjkopmlegaa", sum := "06dc20bf4ac92cbaab8ebe99c80c6bd334a8c80648fec1b2fd077d903c6b6ba2", func := "firkin/firkinlaw06.StripeMends", spec := "stripeMends", unfollowed := true, recurses := true, apart := false, narrowed := true }
def StripeMendsUptoSaid : Prop := stripeMendsUptoRow.holds Try.pinned (OpenSpec.upto stripeMendsSpec)

end Rows
end Go.Proofs.Ytdgcbjkopmlegaa
