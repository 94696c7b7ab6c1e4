/-
  No cell of these rows narrows 'for every input' (looked for: loops, veiled, ifaces, maps, wideKeys, modest, calm, conditions, laid).
  DERIVED. THE GIVEN ROWS OF THIS SEAT. 7 by the template 'for every input the law returns true; each argument reads behind the call as it read before'; 0 by the template 'total and deterministic' (their statements: YtglpacdenfoicaaTotals.lean).
  GIVEN WITH THE SEED: the statements are not yours to turn. If you find one false, say at which input.
  Laid BY PROGRAM, IN A SANDBOX (cutbox-rows.mjs): the forced cells as the released guide's own fill.sh prints them over the translation 946f9a4e72eb6a3f… (all of the seat's roots in one cut). By AI agents, Wed Nov 11 2026. No macro, syntax, notation, axiom, sorry.
-/
import Derived.Test.YtglpacdenfoicaaChecked
import GoSem.Claim
import GoSem.ClaimJoined
import GoSem.ClaimMapViews
import Derived.JoinedTies
import Derived.KernelRfl
namespace Go.Proofs.Ytglpacdenfoicaa
/- THE CELL 'sum', in the pinned program and in every row, IS THE sha256 OF THE DUMP (.gsa) THAT YtglpacdenfoicaaProg.lean LOADS. Nothing in Lean hashes anything: it is a label: what it is worth is what the hold of that sum in a sandbox is worth. -/
noncomputable def Try.pinned : Pinned := { name := "ytglpacdenfoicaa", sum := "946f9a4e72eb6a3f40a15a3b2fdbd2906045b65fc31c66192549c7fd390b7621", checked := Try.checked }
namespace Rows
def none {H : Type} : Left H := { results := [], args := [] }

/-- 'firkinlaw04.NandFlips': WHATEVER THE INPUT: true; the input reads as it did. -/
def nandFlipsSpec : ChangeSpec := { name := "nandFlips", fn := fun _ => fun
  | [d1, d2, d3, d4] => { results := [.lit (.bool true)], args := [d1, d2, d3, d4] }
  | _ => none }
def nandFlipsRow : OpenClaim := { program := "ytglpacdenfoicaa", sum := "946f9a4e72eb6a3f40a15a3b2fdbd2906045b65fc31c66192549c7fd390b7621", func := "firkin/firkinlaw04.NandFlips", spec := "nandFlips", inPlace := ["sync/atomic.AddInt64", "sync/atomic.LoadInt64"], unfollowed := true, recurses := true, apart := false }
def NandFlipsSaid : Prop := nandFlipsRow.holds Try.pinned (OpenSpec.ofChange nandFlipsSpec)

/-- ITS FALSE NEIGHBOUR: 'it returns false'. Refute it at one input. -/
def nandFlipsWrong : ChangeSpec := { name := "nandFlips", fn := fun _ => fun
  | [d1, d2, d3, d4] => { results := [.lit (.bool false)], args := [d1, d2, d3, d4] }
  | _ => none }
def NandFlipsWrongFalsely : Prop := nandFlipsRow.holds Try.pinned (OpenSpec.ofChange nandFlipsWrong)

/-- 'firkinlaw04.NandKeeps': WHATEVER THE INPUT: true; the input reads as it did. -/
def nandKeepsSpec : ChangeSpec := { name := "nandKeeps", fn := fun _ => fun
  | [d1, d2, d3, d4] => { results := [.lit (.bool true)], args := [d1, d2, d3, d4] }
  | _ => none }
def nandKeepsRow : OpenClaim := { program := "ytglpacdenfoicaa", sum := "946f9a4e72eb6a3f40a15a3b2fdbd2906045b65fc31c66192549c7fd390b7621", func := "firkin/firkinlaw04.NandKeeps", spec := "nandKeeps", inPlace := ["sync/atomic.AddInt64"], unfollowed := true, recurses := true, apart := false }
def NandKeepsSaid : Prop := nandKeepsRow.holds Try.pinned (OpenSpec.ofChange nandKeepsSpec)

/-- ITS FALSE NEIGHBOUR: 'it returns false'. Refute it at one input. -/
def nandKeepsWrong : ChangeSpec := { name := "nandKeeps", fn := fun _ => fun
  | [d1, d2, d3, d4] => { results := [.lit (.bool false)], args := [d1, d2, d3, d4] }
  | _ => none }
def NandKeepsWrongFalsely : Prop := nandKeepsRow.holds Try.pinned (OpenSpec.ofChange nandKeepsWrong)

/-- 'firkinlaw04.NandCuts': WHATEVER THE INPUT: true; the input reads as it did. -/
def nandCutsSpec : ChangeSpec := { name := "nandCuts", fn := fun _ => fun
  | [d1, d2, d3] => { results := [.lit (.bool true)], args := [d1, d2, d3] }
  | _ => none }
def nandCutsRow : OpenClaim := { program := "ytglpacdenfoicaa", sum := "946f9a4e72eb6a3f40a15a3b2fdbd2906045b65fc31c66192549c7fd390b7621", func := "firkin/firkinlaw04.NandCuts", spec := "nandCuts", inPlace := ["sync/atomic.AddInt64"], unfollowed := true, recurses := true, apart := false }
def NandCutsSaid : Prop := nandCutsRow.holds Try.pinned (OpenSpec.ofChange nandCutsSpec)

/-- ITS FALSE NEIGHBOUR: 'it returns false'. Refute it at one input. -/
def nandCutsWrong : ChangeSpec := { name := "nandCuts", fn := fun _ => fun
  | [d1, d2, d3] => { results := [.lit (.bool false)], args := [d1, d2, d3] }
  | _ => none }
def NandCutsWrongFalsely : Prop := nandCutsRow.holds Try.pinned (OpenSpec.ofChange nandCutsWrong)

/-- 'firkinlaw04.NandDies': WHATEVER THE INPUT: true; the input reads as it did. -/
def nandDiesSpec : ChangeSpec := { name := "nandDies", fn := fun _ => fun
  | [d1, d2, d3] => { results := [.lit (.bool true)], args := [d1, d2, d3] }
  | _ => none }
def nandDiesRow : OpenClaim := { program := "ytglpacdenfoicaa", sum := "946f9a4e72eb6a3f40a15a3b2fdbd2906045b65fc31c66192549c7fd390b7621", func := "firkin/firkinlaw04.NandDies", spec := "nandDies", inPlace := ["sync/atomic.AddInt64"], unfollowed := true, recurses := true, apart := false }
def NandDiesSaid : Prop := nandDiesRow.holds Try.pinned (OpenSpec.ofChange nandDiesSpec)

/-- ITS FALSE NEIGHBOUR: 'it returns false'. Refute it at one input. -/
def nandDiesWrong : ChangeSpec := { name := "nandDies", fn := fun _ => fun
  | [d1, d2, d3] => { results := [.lit (.bool false)], args := [d1, d2, d3] }
  | _ => none }
def NandDiesWrongFalsely : Prop := nandDiesRow.holds Try.pinned (OpenSpec.ofChange nandDiesWrong)

/-- 'firkinlaw04.NandOrder': WHATEVER THE INPUT: true; the input reads as it did. -/
def nandOrderSpec : ChangeSpec := { name := "nandOrder", fn := fun _ => fun
  | [d1, d2] => { results := [.lit (.bool true)], args := [d1, d2] }
  | _ => none }
def nandOrderRow : OpenClaim := { program := "ytglpacdenfoicaa", sum := "946f9a4e72eb6a3f40a15a3b2fdbd2906045b65fc31c66192549c7fd390b7621", func := "firkin/firkinlaw04.NandOrder", spec := "nandOrder", inPlace := ["sync/atomic.AddInt64"], unfollowed := true, recurses := true, apart := false }
def NandOrderSaid : Prop := nandOrderRow.holds Try.pinned (OpenSpec.ofChange nandOrderSpec)

/-- ITS FALSE NEIGHBOUR: 'it returns false'. Refute it at one input. -/
def nandOrderWrong : ChangeSpec := { name := "nandOrder", fn := fun _ => fun
  | [d1, d2] => { results := [.lit (.bool false)], args := [d1, d2] }
  | _ => none }
def NandOrderWrongFalsely : Prop := nandOrderRow.holds Try.pinned (OpenSpec.ofChange nandOrderWrong)

/-- 'firkinlaw04.NandCounts': WHATEVER THE INPUT: true; the input reads as it did. -/
def nandCountsSpec : ChangeSpec := { name := "nandCounts", fn := fun _ => fun
  | [d1, d2] => { results := [.lit (.bool true)], args := [d1, d2] }
  | _ => none }
def nandCountsRow : OpenClaim := { program := "ytglpacdenfoicaa", sum := "946f9a4e72eb6a3f40a15a3b2fdbd2906045b65fc31c66192549c7fd390b7621", func := "firkin/firkinlaw04.NandCounts", spec := "nandCounts", inPlace := ["sync/atomic.AddInt64", "sync/atomic.LoadInt64"], unfollowed := true, recurses := true, apart := false }
def NandCountsSaid : Prop := nandCountsRow.holds Try.pinned (OpenSpec.ofChange nandCountsSpec)

/-- ITS FALSE NEIGHBOUR: 'it returns false'. Refute it at one input. -/
def nandCountsWrong : ChangeSpec := { name := "nandCounts", fn := fun _ => fun
  | [d1, d2] => { results := [.lit (.bool false)], args := [d1, d2] }
  | _ => none }
def NandCountsWrongFalsely : Prop := nandCountsRow.holds Try.pinned (OpenSpec.ofChange nandCountsWrong)

/-- 'firkinlaw04.NandPlays': WHATEVER THE INPUT: true; the input reads as it did. -/
def nandPlaysSpec : ChangeSpec := { name := "nandPlays", fn := fun _ => fun
  | [d1, d2, d3] => { results := [.lit (.bool true)], args := [d1, d2, d3] }
  | _ => none }
def nandPlaysRow : OpenClaim := { program := "ytglpacdenfoicaa", sum := "946f9a4e72eb6a3f40a15a3b2fdbd2906045b65fc31c66192549c7fd390b7621", func := "firkin/firkinlaw04.NandPlays", spec := "nandPlays", inPlace := ["sync/atomic.AddInt64", "sync/atomic.LoadInt64"], unfollowed := true, recurses := true, apart := false }
def NandPlaysSaid : Prop := nandPlaysRow.holds Try.pinned (OpenSpec.ofChange nandPlaysSpec)

/-- ITS FALSE NEIGHBOUR: 'it returns false'. Refute it at one input. -/
def nandPlaysWrong : ChangeSpec := { name := "nandPlays", fn := fun _ => fun
  | [d1, d2, d3] => { results := [.lit (.bool false)], args := [d1, d2, d3] }
  | _ => none }
def NandPlaysWrongFalsely : Prop := nandPlaysRow.holds Try.pinned (OpenSpec.ofChange nandPlaysWrong)

/- THE SECOND FORM. 'bulk': how many values and letters a reading holds, each counted each time it is reached (what is shared counts as often as it is met; a slice's spare places count too). A statement '..UptoSaid' is the law's where the arguments, and the package variables that the reading takes, are together of bulk at most 1048576: NARROWER than '..Said'. Prove '..Said' where nothing that the law and all that it calls make is longer than what came in: it says more and counts as full. Else prove '..UptoSaid'. A law counts once. -/
mutual
def uptoBulk {H : Type} : DataW H → Nat
  | .lit (.string bytes) => bytes.length + 1
  | .lit _ => 1
  | .nil => 1
  | .ptr d => uptoBulk d + 1
  | .slice elems spare => uptoBulkAll elems + uptoBulkAll spare + 1
  | .agg parts => uptoBulkAll parts + 1
  | .iface _ d => uptoBulk d + 1
  | .map entries => uptoBulkEntries entries + 1
  | .held _ => 1
def uptoBulkAll {H : Type} : List (DataW H) → Nat
  | [] => 0
  | d :: r => uptoBulk d + uptoBulkAll r
def uptoBulkEntries {H : Type} : List (Lit × DataW H) → Nat
  | [] => 0
  | x :: r => uptoBulkEntry x + uptoBulkEntries r
def uptoBulkEntry {H : Type} : Lit × DataW H → Nat
  | (.string bytes, d) => bytes.length + uptoBulk d + 1
  | (_, d) => uptoBulk d + 1
 end
def uptoSmall : (H : Type) → List (DataW H) → Bool := fun _ ds => decide (uptoBulkAll ds ≤ 1048576)
def OpenSpec.upto (s : _root_.Go.ChangeSpec) : _root_.Go.OpenSpec := { _root_.Go.OpenSpec.ofChange s with cond := some uptoSmall }

/-- 'firkinlaw04.NandFlips', WHERE WHAT IT READS IS OF BULK AT MOST 1048576: true; the input reads as it did. -/
def nandFlipsUptoRow : OpenClaim := { program := "ytglpacdenfoicaa", sum := "946f9a4e72eb6a3f40a15a3b2fdbd2906045b65fc31c66192549c7fd390b7621", func := "firkin/firkinlaw04.NandFlips", spec := "nandFlips", inPlace := ["sync/atomic.AddInt64", "sync/atomic.LoadInt64"], unfollowed := true, recurses := true, apart := false, narrowed := true }
def NandFlipsUptoSaid : Prop := nandFlipsUptoRow.holds Try.pinned (OpenSpec.upto nandFlipsSpec)

/-- 'firkinlaw04.NandKeeps', WHERE WHAT IT READS IS OF BULK AT MOST 1048576: true; the input reads as it did. -/
def nandKeepsUptoRow : OpenClaim := { program := "ytglpacdenfoicaa", sum := "946f9a4e72eb6a3f40a15a3b2fdbd2906045b65fc31c66192549c7fd390b7621", func := "firkin/firkinlaw04.NandKeeps", spec := "nandKeeps", inPlace := ["sync/atomic.AddInt64"], unfollowed := true, recurses := true, apart := false, narrowed := true }
def NandKeepsUptoSaid : Prop := nandKeepsUptoRow.holds Try.pinned (OpenSpec.upto nandKeepsSpec)

/-- 'firkinlaw04.NandCuts', WHERE WHAT IT READS IS OF BULK AT MOST 1048576: true; the input reads as it did. -/
def nandCutsUptoRow : OpenClaim := { program := "ytglpacdenfoicaa", sum := "946f9a4e72eb6a3f40a15a3b2fdbd2906045b65fc31c66192549c7fd390b7621", func := "firkin/firkinlaw04.NandCuts", spec := "nandCuts", inPlace := ["sync/atomic.AddInt64"], unfollowed := true, recurses := true, apart := false, narrowed := true }
def NandCutsUptoSaid : Prop := nandCutsUptoRow.holds Try.pinned (OpenSpec.upto nandCutsSpec)

/-- 'firkinlaw04.NandDies', WHERE WHAT IT READS IS OF BULK AT MOST 1048576: true; the input reads as it did. -/
def nandDiesUptoRow : OpenClaim := { program := "ytglpacdenfoicaa", sum := "946f9a4e72eb6a3f40a15a3b2fdbd2906045b65fc31c66192549c7fd390b7621", func := "firkin/firkinlaw04.NandDies", spec := "nandDies", inPlace := ["sync/atomic.AddInt64"], unfollowed := true, recurses := true, apart := false, narrowed := true }
def NandDiesUptoSaid : Prop := nandDiesUptoRow.holds Try.pinned (OpenSpec.upto nandDiesSpec)

/-- 'firkinlaw04.NandOrder', WHERE WHAT IT READS IS OF BULK AT MOST 1048576: true; the input reads as it did. -/
def nandOrderUptoRow : OpenClaim := { program := "ytglpacdenfoicaa", sum := "946f9a4e72eb6a3f40a15a3b2fdbd2906045b65fc31c66192549c7fd390b7621", func := "firkin/firkinlaw04.NandOrder", spec := "nandOrder", inPlace := ["sync/atomic.AddInt64"], unfollowed := true, recurses := true, apart := false, narrowed := true }
def NandOrderUptoSaid : Prop := nandOrderUptoRow.holds Try.pinned (OpenSpec.upto nandOrderSpec)

/-- 'firkinlaw04.NandCounts', WHERE WHAT IT READS IS OF BULK AT MOST 1048576: true; the input reads as it did. -/
def nandCountsUptoRow : OpenClaim := { program := "ytglpacdenfoicaa", sum := "946f9a4e72eb6a3f40a15a3b2fdbd2906045b65fc31c66192549c7fd390b7621", func := "firkin/firkinlaw04.NandCounts", spec := "nandCounts", inPlace := ["sync/atomic.AddInt64", "sync/atomic.LoadInt64"], unfollowed := true, recurses := true, apart := false, narrowed := true }
def NandCountsUptoSaid : Prop := nandCountsUptoRow.holds Try.pinned (OpenSpec.upto nandCountsSpec)

/-- 'firkinlaw04.NandPlays', WHERE WHAT IT READS IS OF BULK AT MOST 1048576: true; the input reads as it did. -/
def nandPlaysUptoRow : OpenClaim := { program := "ytglpacdenfoicaa", sum := "946f9a4e72eb6a3f40a15a3b2fdbd2906045b65fc31c66192549c7fd390b7621", func := "firkin/firkinlaw04.NandPlays", spec := "nandPlays", inPlace := ["sync/atomic.AddInt64", "sync/atomic.LoadInt64"], unfollowed := true, recurses := true, apart := false, narrowed := true }
def NandPlaysUptoSaid : Prop := nandPlaysUptoRow.holds Try.pinned (OpenSpec.upto nandPlaysSpec)

end Rows
end Go.Proofs.Ytglpacdenfoicaa
