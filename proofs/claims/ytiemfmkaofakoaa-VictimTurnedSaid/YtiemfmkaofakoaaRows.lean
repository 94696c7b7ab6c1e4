/-
  No cell of these rows narrows 'for every input' (looked for: loops, veiled, ifaces, maps, wideKeys, modest, calm, conditions, laid).
  DERIVED. THE GIVEN ROWS OF THIS SEAT. 5 by the template 'for every input the law returns true; each argument reads behind the call as it read before'; 0 by the template 'total and deterministic' (their statements: YtiemfmkaofakoaaTotals.lean).
  GIVEN WITH THE SEED: the statements are not yours to turn. If you find one false, say at which input.
  Laid BY PROGRAM, IN A SANDBOX (cutbox-rows.mjs): the forced cells as the released guide's own fill.sh prints them over the translation a00e0786feeb4a24… (all of the seat's roots in one cut). By AI agents, Wed Nov 11 2026. No macro, syntax, notation, axiom, sorry.
-/
import Derived.Test.YtiemfmkaofakoaaChecked
import GoSem.Claim
import GoSem.ClaimJoined
import GoSem.ClaimMapViews
import Derived.JoinedTies
import Derived.KernelRfl
namespace Go.Proofs.Ytiemfmkaofakoaa
/- THE CELL 'sum', in the pinned program and in every row, IS THE sha256 OF THE DUMP (.gsa) THAT YtiemfmkaofakoaaProg.lean LOADS. Nothing in Lean hashes anything: it is a label: what it is worth is what the hold of that sum in a sandbox is worth. -/
noncomputable def Try.pinned : Pinned := { name := "ytiemfmkaofakoaa", sum := "a00e0786feeb4a24f4d2babd8dcec0c7c740eca01f6710118a93cf83a4a590e9", checked := Try.checked }
namespace Rows
def none {H : Type} : Left H := { results := [], args := [] }

/-- 'firkinlaw12.VictimChooses': WHATEVER THE INPUT: true; the input reads as it did. -/
def victimChoosesSpec : ChangeSpec := { name := "victimChooses", fn := fun _ => fun
  | [d1, d2] => { results := [.lit (.bool true)], args := [d1, d2] }
  | _ => none }
def victimChoosesRow : OpenClaim := { program := "ytiemfmkaofakoaa", sum := "a00e0786feeb4a24f4d2babd8dcec0c7c740eca01f6710118a93cf83a4a590e9", func := "firkin/firkinlaw12.VictimChooses", spec := "victimChooses", unfollowed := true, recurses := true, apart := false }
def VictimChoosesSaid : Prop := victimChoosesRow.holds Try.pinned (OpenSpec.ofChange victimChoosesSpec)

/-- ITS FALSE NEIGHBOUR: 'it returns false'. Refute it at one input. -/
def victimChoosesWrong : ChangeSpec := { name := "victimChooses", fn := fun _ => fun
  | [d1, d2] => { results := [.lit (.bool false)], args := [d1, d2] }
  | _ => none }
def VictimChoosesWrongFalsely : Prop := victimChoosesRow.holds Try.pinned (OpenSpec.ofChange victimChoosesWrong)

/-- 'firkinlaw12.VictimWears': WHATEVER THE INPUT: true; the input reads as it did. -/
def victimWearsSpec : ChangeSpec := { name := "victimWears", fn := fun _ => fun
  | [d1, d2, d3, d4] => { results := [.lit (.bool true)], args := [d1, d2, d3, d4] }
  | _ => none }
def victimWearsRow : OpenClaim := { program := "ytiemfmkaofakoaa", sum := "a00e0786feeb4a24f4d2babd8dcec0c7c740eca01f6710118a93cf83a4a590e9", func := "firkin/firkinlaw12.VictimWears", spec := "victimWears", unfollowed := true, recurses := true, apart := false }
def VictimWearsSaid : Prop := victimWearsRow.holds Try.pinned (OpenSpec.ofChange victimWearsSpec)

/-- ITS FALSE NEIGHBOUR: 'it returns false'. Refute it at one input. -/
def victimWearsWrong : ChangeSpec := { name := "victimWears", fn := fun _ => fun
  | [d1, d2, d3, d4] => { results := [.lit (.bool false)], args := [d1, d2, d3, d4] }
  | _ => none }
def VictimWearsWrongFalsely : Prop := victimWearsRow.holds Try.pinned (OpenSpec.ofChange victimWearsWrong)

/-- 'firkinlaw12.VictimLeast': WHATEVER THE INPUT: true; the input reads as it did. -/
def victimLeastSpec : ChangeSpec := { name := "victimLeast", fn := fun _ => fun
  | [d1, d2] => { results := [.lit (.bool true)], args := [d1, d2] }
  | _ => none }
def victimLeastRow : OpenClaim := { program := "ytiemfmkaofakoaa", sum := "a00e0786feeb4a24f4d2babd8dcec0c7c740eca01f6710118a93cf83a4a590e9", func := "firkin/firkinlaw12.VictimLeast", spec := "victimLeast", unfollowed := true, recurses := true, apart := false }
def VictimLeastSaid : Prop := victimLeastRow.holds Try.pinned (OpenSpec.ofChange victimLeastSpec)

/-- ITS FALSE NEIGHBOUR: 'it returns false'. Refute it at one input. -/
def victimLeastWrong : ChangeSpec := { name := "victimLeast", fn := fun _ => fun
  | [d1, d2] => { results := [.lit (.bool false)], args := [d1, d2] }
  | _ => none }
def VictimLeastWrongFalsely : Prop := victimLeastRow.holds Try.pinned (OpenSpec.ofChange victimLeastWrong)

/-- 'firkinlaw12.VictimEmpty': WHATEVER THE INPUT: true; the input reads as it did. -/
def victimEmptySpec : ChangeSpec := { name := "victimEmpty", fn := fun _ => fun
  | [d1, d2] => { results := [.lit (.bool true)], args := [d1, d2] }
  | _ => none }
def victimEmptyRow : OpenClaim := { program := "ytiemfmkaofakoaa", sum := "a00e0786feeb4a24f4d2babd8dcec0c7c740eca01f6710118a93cf83a4a590e9", func := "firkin/firkinlaw12.VictimEmpty", spec := "victimEmpty", unfollowed := true, recurses := true, apart := false }
def VictimEmptySaid : Prop := victimEmptyRow.holds Try.pinned (OpenSpec.ofChange victimEmptySpec)

/-- ITS FALSE NEIGHBOUR: 'it returns false'. Refute it at one input. -/
def victimEmptyWrong : ChangeSpec := { name := "victimEmpty", fn := fun _ => fun
  | [d1, d2] => { results := [.lit (.bool false)], args := [d1, d2] }
  | _ => none }
def VictimEmptyWrongFalsely : Prop := victimEmptyRow.holds Try.pinned (OpenSpec.ofChange victimEmptyWrong)

/-- 'firkinlaw12.VictimTurned': WHATEVER THE INPUT: true; the input reads as it did. -/
def victimTurnedSpec : ChangeSpec := { name := "victimTurned", fn := fun _ => fun
  | [d1, d2, d3] => { results := [.lit (.bool true)], args := [d1, d2, d3] }
  | _ => none }
def victimTurnedRow : OpenClaim := { program := "ytiemfmkaofakoaa", sum := "a00e0786feeb4a24f4d2babd8dcec0c7c740eca01f6710118a93cf83a4a590e9", func := "firkin/firkinlaw12.VictimTurned", spec := "victimTurned", unfollowed := true, recurses := true, apart := false }
def VictimTurnedSaid : Prop := victimTurnedRow.holds Try.pinned (OpenSpec.ofChange victimTurnedSpec)

/-- ITS FALSE NEIGHBOUR: 'it returns false'. Refute it at one input. -/
def victimTurnedWrong : ChangeSpec := { name := "victimTurned", fn := fun _ => fun
  | [d1, d2, d3] => { results := [.lit (.bool false)], args := [d1, d2, d3] }
  | _ => none }
def VictimTurnedWrongFalsely : Prop := victimTurnedRow.holds Try.pinned (OpenSpec.ofChange victimTurnedWrong)

/- THE SECOND FORM. 'bulk': how many values and letters a reading holds, each counted each time it is reached (what is shared counts as often as it is met; a slice's spare places count too). A statement '..UptoSaid' is the law's where the arguments, and the package variables that the reading takes, are together of bulk at most 1048576: NARROWER than '..Said'. Prove '..Said' where nothing that the law and all that it calls make is longer than what came in: it says more and counts as full. Else prove '..UptoSaid'. A law counts once. -/
mutual
def uptoBulk {H : Type} : DataW H → Nat
  | .lit (.string bytes) => bytes.length + 1
  | .lit _ => 1
  | .nil => 1
  | .ptr d => uptoBulk d + 1
  | .slice elems spare => uptoBulkAll elems + uptoBulkAll spare + 1
  | .agg parts => uptoBulkAll parts + 1
  | .iface _ d => uptoBulk d + 1
  | .map entries => uptoBulkEntries entries + 1
  | .held _ => 1
def uptoBulkAll {H : Type} : List (DataW H) → Nat
  | [] => 0
  | d :: r => uptoBulk d + uptoBulkAll r
def uptoBulkEntries {H : Type} : List (Lit × DataW H) → Nat
  | [] => 0
  | x :: r => uptoBulkEntry x + uptoBulkEntries r
def uptoBulkEntry {H : Type} : Lit × DataW H → Nat
  | (.string bytes, d) => bytes.length + uptoBulk d + 1
  | (_, d) => uptoBulk d + 1
 end
def uptoSmall : (H : Type) → List (DataW H) → Bool := fun _ ds => decide (uptoBulkAll ds ≤ 1048576)
def OpenSpec.upto (s : _root_.Go.ChangeSpec) : _root_.Go.OpenSpec := { _root_.Go.OpenSpec.ofChange s with cond := some uptoSmall }

/-- 'firkinlaw12.VictimChooses', WHERE WHAT IT READS IS OF BULK AT MOST 1048576: true; the input reads as it did. -/
def victimChoosesUptoRow : OpenClaim := { program := "ytiemfmkaofakoaa", sum := "a00e0786feeb4a24f4d2babd8dcec0c7c740eca01f6710118a93cf83a4a590e9", func := "firkin/firkinlaw12.VictimChooses", spec := "victimChooses", unfollowed := true, recurses := true, apart := false, narrowed := true }
def VictimChoosesUptoSaid : Prop := victimChoosesUptoRow.holds Try.pinned (OpenSpec.upto victimChoosesSpec)

/-- 'firkinlaw12.VictimWears', WHERE WHAT IT READS IS OF BULK AT MOST 1048576: true; the input reads as it did. -/
def victimWearsUptoRow : OpenClaim := { program := "ytiemfmkaofakoaa", sum := "a00e0786feeb4a24f4d2babd8dcec0c7c740eca01f6710118a93cf83a4a590e9", func := "firkin/firkinlaw12.VictimWears", spec := "victimWears", unfollowed := true, recurses := true, apart := false, narrowed := true }
def VictimWearsUptoSaid : Prop := victimWearsUptoRow.holds Try.pinned (OpenSpec.upto victimWearsSpec)

/-- 'firkinlaw12.VictimLeast', WHERE WHAT IT READS IS OF BULK AT MOST 1048576: true; the input reads as it did. -/
def victimLeastUptoRow : OpenClaim := { program := "ytiemfmkaofakoaa", sum := "a00e0786feeb4a24f4d2babd8dcec0c7c740eca01f6710118a93cf83a4a590e9", func := "firkin/firkinlaw12.VictimLeast", spec := "victimLeast", unfollowed := true, recurses := true, apart := false, narrowed := true }
def VictimLeastUptoSaid : Prop := victimLeastUptoRow.holds Try.pinned (OpenSpec.upto victimLeastSpec)

/-- 'firkinlaw12.VictimEmpty', WHERE WHAT IT READS IS OF BULK AT MOST 1048576: true; the input reads as it did. -/
def victimEmptyUptoRow : OpenClaim := { program := "ytiemfmkaofakoaa", sum := "a00e0786feeb4a24f4d2babd8dcec0c7c740eca01f6710118a93cf83a4a590e9", func := "firkin/firkinlaw12.VictimEmpty", spec := "victimEmpty", unfollowed := true, recurses := true, apart := false, narrowed := true }
def VictimEmptyUptoSaid : Prop := victimEmptyUptoRow.holds Try.pinned (OpenSpec.upto victimEmptySpec)

/-- 'firkinlaw12.VictimTurned', WHERE WHAT IT READS IS OF BULK AT MOST 1048576: true; the input reads as it did. -/
def victimTurnedUptoRow : OpenClaim := { program := "ytiemfmkaofakoaa", sum := "a00e0786feeb4a24f4d2babd8dcec0c7c740eca01f6710118a93cf83a4a590e9", func := "firkin/firkinlaw12.VictimTurned", spec := "victimTurned", unfollowed := true, recurses := true, apart := false, narrowed := true }
def VictimTurnedUptoSaid : Prop := victimTurnedUptoRow.holds Try.pinned (OpenSpec.upto victimTurnedSpec)

end Rows
end Go.Proofs.Ytiemfmkaofakoaa
