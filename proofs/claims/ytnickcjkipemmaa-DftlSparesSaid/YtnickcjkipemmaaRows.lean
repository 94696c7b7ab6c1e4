/-
  No cell of these rows narrows 'for every input' (looked for: loops, veiled, ifaces, maps, wideKeys, modest, calm, conditions, laid).
  DERIVED. THE GIVEN ROWS OF THIS SEAT. 9 by the template 'for every input the law returns true; each argument reads behind the call as it read before'; 0 by the template 'total and deterministic' (their statements: YtnickcjkipemmaaTotals.lean).
  GIVEN WITH THE SEED: the statements are not yours to turn. If you find one false, say at which input.
  Laid BY PROGRAM, IN A SANDBOX (cutbox-rows.mjs): the forced cells as the released guide's own fill.sh prints them over the translation 82a6c67ecc66a8d7… (all of the seat's roots in one cut). By AI agents, Wed Nov 11 2026. No macro, syntax, notation, axiom, sorry.
-/
import Derived.Test.YtnickcjkipemmaaChecked
import GoSem.Claim
import GoSem.ClaimJoined
import GoSem.ClaimMapViews
import Derived.JoinedTies
import Derived.KernelRfl
namespace Go.Proofs.Ytnickcjkipemmaa
/- THE CELL 'sum', in the pinned program and in every row, IS THE sha256 OF THE DUMP (.gsa) THAT YtnickcjkipemmaaProg.lean LOADS. Nothing in Lean hashes anything: it is a label: what it is worth is what the hold of that sum in a sandbox is worth. -/
noncomputable def Try.pinned : Pinned := { name := "ytnickcjkipemmaa", sum := "82a6c67ecc66a8d729b4d7f69b2679ed74a7ab3c3bea004d63dfd544ae0baf02", checked := Try.checked }
namespace Rows
def none {H : Type} : Left H := { results := [], args := [] }

/-- 'firkinlaw10.LruStays': WHATEVER THE INPUT: true; the input reads as it did. -/
def lruStaysSpec : ChangeSpec := { name := "lruStays", fn := fun _ => fun
  | [d1, d2, d3, d4] => { results := [.lit (.bool true)], args := [d1, d2, d3, d4] }
  | _ => none }
def lruStaysRow : OpenClaim := { program := "ytnickcjkipemmaa", sum := "82a6c67ecc66a8d729b4d7f69b2679ed74a7ab3c3bea004d63dfd544ae0baf02", func := "firkin/firkinlaw10.LruStays", spec := "lruStays", apart := false }
def LruStaysSaid : Prop := lruStaysRow.holds Try.pinned (OpenSpec.ofChange lruStaysSpec)

/-- ITS FALSE NEIGHBOUR: 'it returns false'. Refute it at one input. -/
def lruStaysWrong : ChangeSpec := { name := "lruStays", fn := fun _ => fun
  | [d1, d2, d3, d4] => { results := [.lit (.bool false)], args := [d1, d2, d3, d4] }
  | _ => none }
def LruStaysWrongFalsely : Prop := lruStaysRow.holds Try.pinned (OpenSpec.ofChange lruStaysWrong)

/-- 'firkinlaw10.LruDrops': WHATEVER THE INPUT: true; the input reads as it did. -/
def lruDropsSpec : ChangeSpec := { name := "lruDrops", fn := fun _ => fun
  | [d1, d2, d3] => { results := [.lit (.bool true)], args := [d1, d2, d3] }
  | _ => none }
def lruDropsRow : OpenClaim := { program := "ytnickcjkipemmaa", sum := "82a6c67ecc66a8d729b4d7f69b2679ed74a7ab3c3bea004d63dfd544ae0baf02", func := "firkin/firkinlaw10.LruDrops", spec := "lruDrops", apart := false }
def LruDropsSaid : Prop := lruDropsRow.holds Try.pinned (OpenSpec.ofChange lruDropsSpec)

/-- ITS FALSE NEIGHBOUR: 'it returns false'. Refute it at one input. -/
def lruDropsWrong : ChangeSpec := { name := "lruDrops", fn := fun _ => fun
  | [d1, d2, d3] => { results := [.lit (.bool false)], args := [d1, d2, d3] }
  | _ => none }
def LruDropsWrongFalsely : Prop := lruDropsRow.holds Try.pinned (OpenSpec.ofChange lruDropsWrong)

/-- 'firkinlaw10.LruMost': WHATEVER THE INPUT: true; the input reads as it did. -/
def lruMostSpec : ChangeSpec := { name := "lruMost", fn := fun _ => fun
  | [d1, d2] => { results := [.lit (.bool true)], args := [d1, d2] }
  | _ => none }
def lruMostRow : OpenClaim := { program := "ytnickcjkipemmaa", sum := "82a6c67ecc66a8d729b4d7f69b2679ed74a7ab3c3bea004d63dfd544ae0baf02", func := "firkin/firkinlaw10.LruMost", spec := "lruMost", apart := false }
def LruMostSaid : Prop := lruMostRow.holds Try.pinned (OpenSpec.ofChange lruMostSpec)

/-- ITS FALSE NEIGHBOUR: 'it returns false'. Refute it at one input. -/
def lruMostWrong : ChangeSpec := { name := "lruMost", fn := fun _ => fun
  | [d1, d2] => { results := [.lit (.bool false)], args := [d1, d2] }
  | _ => none }
def LruMostWrongFalsely : Prop := lruMostRow.holds Try.pinned (OpenSpec.ofChange lruMostWrong)

/-- 'firkinlaw10.LruCleans': WHATEVER THE INPUT: true; the input reads as it did. -/
def lruCleansSpec : ChangeSpec := { name := "lruCleans", fn := fun _ => fun
  | [d1, d2, d3, d4] => { results := [.lit (.bool true)], args := [d1, d2, d3, d4] }
  | _ => none }
def lruCleansRow : OpenClaim := { program := "ytnickcjkipemmaa", sum := "82a6c67ecc66a8d729b4d7f69b2679ed74a7ab3c3bea004d63dfd544ae0baf02", func := "firkin/firkinlaw10.LruCleans", spec := "lruCleans", unfollowed := true, recurses := true, apart := false }
def LruCleansSaid : Prop := lruCleansRow.holds Try.pinned (OpenSpec.ofChange lruCleansSpec)

/-- ITS FALSE NEIGHBOUR: 'it returns false'. Refute it at one input. -/
def lruCleansWrong : ChangeSpec := { name := "lruCleans", fn := fun _ => fun
  | [d1, d2, d3, d4] => { results := [.lit (.bool false)], args := [d1, d2, d3, d4] }
  | _ => none }
def LruCleansWrongFalsely : Prop := lruCleansRow.holds Try.pinned (OpenSpec.ofChange lruCleansWrong)

/-- 'firkinlaw10.LruPlays': WHATEVER THE INPUT: true; the input reads as it did. -/
def lruPlaysSpec : ChangeSpec := { name := "lruPlays", fn := fun _ => fun
  | [d1, d2] => { results := [.lit (.bool true)], args := [d1, d2] }
  | _ => none }
def lruPlaysRow : OpenClaim := { program := "ytnickcjkipemmaa", sum := "82a6c67ecc66a8d729b4d7f69b2679ed74a7ab3c3bea004d63dfd544ae0baf02", func := "firkin/firkinlaw10.LruPlays", spec := "lruPlays", unfollowed := true, recurses := true, apart := false }
def LruPlaysSaid : Prop := lruPlaysRow.holds Try.pinned (OpenSpec.ofChange lruPlaysSpec)

/-- ITS FALSE NEIGHBOUR: 'it returns false'. Refute it at one input. -/
def lruPlaysWrong : ChangeSpec := { name := "lruPlays", fn := fun _ => fun
  | [d1, d2] => { results := [.lit (.bool false)], args := [d1, d2] }
  | _ => none }
def LruPlaysWrongFalsely : Prop := lruPlaysRow.holds Try.pinned (OpenSpec.ofChange lruPlaysWrong)

/-- 'firkinlaw11.DftlMakes': WHATEVER THE INPUT: true; the input reads as it did. -/
def dftlMakesSpec : ChangeSpec := { name := "dftlMakes", fn := fun _ => fun
  | [d1, d2, d3] => { results := [.lit (.bool true)], args := [d1, d2, d3] }
  | _ => none }
def dftlMakesRow : OpenClaim := { program := "ytnickcjkipemmaa", sum := "82a6c67ecc66a8d729b4d7f69b2679ed74a7ab3c3bea004d63dfd544ae0baf02", func := "firkin/firkinlaw11.DftlMakes", spec := "dftlMakes", unfollowed := true, recurses := true, apart := false }
def DftlMakesSaid : Prop := dftlMakesRow.holds Try.pinned (OpenSpec.ofChange dftlMakesSpec)

/-- ITS FALSE NEIGHBOUR: 'it returns false'. Refute it at one input. -/
def dftlMakesWrong : ChangeSpec := { name := "dftlMakes", fn := fun _ => fun
  | [d1, d2, d3] => { results := [.lit (.bool false)], args := [d1, d2, d3] }
  | _ => none }
def DftlMakesWrongFalsely : Prop := dftlMakesRow.holds Try.pinned (OpenSpec.ofChange dftlMakesWrong)

/-- 'firkinlaw11.DftlSpares': WHATEVER THE INPUT: true; the input reads as it did. -/
def dftlSparesSpec : ChangeSpec := { name := "dftlSpares", fn := fun _ => fun
  | [d1, d2, d3, d4] => { results := [.lit (.bool true)], args := [d1, d2, d3, d4] }
  | _ => none }
def dftlSparesRow : OpenClaim := { program := "ytnickcjkipemmaa", sum := "82a6c67ecc66a8d729b4d7f69b2679ed74a7ab3c3bea004d63dfd544ae0baf02", func := "firkin/firkinlaw11.DftlSpares", spec := "dftlSpares", unfollowed := true, recurses := true, apart := false }
def DftlSparesSaid : Prop := dftlSparesRow.holds Try.pinned (OpenSpec.ofChange dftlSparesSpec)

/-- ITS FALSE NEIGHBOUR: 'it returns false'. Refute it at one input. -/
def dftlSparesWrong : ChangeSpec := { name := "dftlSpares", fn := fun _ => fun
  | [d1, d2, d3, d4] => { results := [.lit (.bool false)], args := [d1, d2, d3, d4] }
  | _ => none }
def DftlSparesWrongFalsely : Prop := dftlSparesRow.holds Try.pinned (OpenSpec.ofChange dftlSparesWrong)

/-- 'firkinlaw11.DftlSame': WHATEVER THE INPUT: true; the input reads as it did. -/
def dftlSameSpec : ChangeSpec := { name := "dftlSame", fn := fun _ => fun
  | [d1, d2, d3, d4, d5] => { results := [.lit (.bool true)], args := [d1, d2, d3, d4, d5] }
  | _ => none }
def dftlSameRow : OpenClaim := { program := "ytnickcjkipemmaa", sum := "82a6c67ecc66a8d729b4d7f69b2679ed74a7ab3c3bea004d63dfd544ae0baf02", func := "firkin/firkinlaw11.DftlSame", spec := "dftlSame", unfollowed := true, recurses := true, apart := false }
def DftlSameSaid : Prop := dftlSameRow.holds Try.pinned (OpenSpec.ofChange dftlSameSpec)

/-- ITS FALSE NEIGHBOUR: 'it returns false'. Refute it at one input. -/
def dftlSameWrong : ChangeSpec := { name := "dftlSame", fn := fun _ => fun
  | [d1, d2, d3, d4, d5] => { results := [.lit (.bool false)], args := [d1, d2, d3, d4, d5] }
  | _ => none }
def DftlSameWrongFalsely : Prop := dftlSameRow.holds Try.pinned (OpenSpec.ofChange dftlSameWrong)

/-- 'firkinlaw11.DftlPlays': WHATEVER THE INPUT: true; the input reads as it did. -/
def dftlPlaysSpec : ChangeSpec := { name := "dftlPlays", fn := fun _ => fun
  | [d1, d2, d3, d4, d5, d6, d7] => { results := [.lit (.bool true)], args := [d1, d2, d3, d4, d5, d6, d7] }
  | _ => none }
def dftlPlaysRow : OpenClaim := { program := "ytnickcjkipemmaa", sum := "82a6c67ecc66a8d729b4d7f69b2679ed74a7ab3c3bea004d63dfd544ae0baf02", func := "firkin/firkinlaw11.DftlPlays", spec := "dftlPlays", unfollowed := true, recurses := true, apart := false }
def DftlPlaysSaid : Prop := dftlPlaysRow.holds Try.pinned (OpenSpec.ofChange dftlPlaysSpec)

/-- ITS FALSE NEIGHBOUR: 'it returns false'. Refute it at one input. -/
def dftlPlaysWrong : ChangeSpec := { name := "dftlPlays", fn := fun _ => fun
  | [d1, d2, d3, d4, d5, d6, d7] => { results := [.lit (.bool false)], args := [d1, d2, d3, d4, d5, d6, d7] }
  | _ => none }
def DftlPlaysWrongFalsely : Prop := dftlPlaysRow.holds Try.pinned (OpenSpec.ofChange dftlPlaysWrong)

/- THE SECOND FORM. 'bulk': how many values and letters a reading holds, each counted each time it is reached (what is shared counts as often as it is met; a slice's spare places count too). A statement '..UptoSaid' is the law's where the arguments, and the package variables that the reading takes, are together of bulk at most 1048576: NARROWER than '..Said'. Prove '..Said' where nothing that the law and all that it calls make is longer than what came in: it says more and counts as full. Else prove '..UptoSaid'. A law counts once. -/
mutual
def uptoBulk {H : Type} : DataW H → Nat
  | .lit (.string bytes) => bytes.length + 1
  | .lit _ => 1
  | .nil => 1
  | .ptr d => uptoBulk d + 1
  | .slice elems spare => uptoBulkAll elems + uptoBulkAll spare + 1
  | .agg parts => uptoBulkAll parts + 1
  | .iface _ d => uptoBulk d + 1
  | .map entries => uptoBulkEntries entries + 1
  | .held _ => 1
def uptoBulkAll {H : Type} : List (DataW H) → Nat
  | [] => 0
  | d :: r => uptoBulk d + uptoBulkAll r
def uptoBulkEntries {H : Type} : List (Lit × DataW H) → Nat
  | [] => 0
  | x :: r => uptoBulkEntry x + uptoBulkEntries r
def uptoBulkEntry {H : Type} : Lit × DataW H → Nat
  | (.string bytes, d) => bytes.length + uptoBulk d + 1
  | (_, d) => uptoBulk d + 1
 end
def uptoSmall : (H : Type) → List (DataW H) → Bool := fun _ ds => decide (uptoBulkAll ds ≤ 1048576)
def OpenSpec.upto (s : _root_.Go.ChangeSpec) : _root_.Go.OpenSpec := { _root_.Go.OpenSpec.ofChange s with cond := some uptoSmall }

/-- 'firkinlaw10.LruStays', WHERE WHAT IT READS IS OF BULK AT MOST 1048576: true; the input reads as it did. -/
def lruStaysUptoRow : OpenClaim := { program := "ytnickcjkipemmaa", sum := "82a6c67ecc66a8d729b4d7f69b2679ed74a7ab3c3bea004d63dfd544ae0baf02", func := "firkin/firkinlaw10.LruStays", spec := "lruStays", apart := false, narrowed := true }
def LruStaysUptoSaid : Prop := lruStaysUptoRow.holds Try.pinned (OpenSpec.upto lruStaysSpec)

/-- 'firkinlaw10.LruDrops', WHERE WHAT IT READS IS OF BULK AT MOST 1048576: true; the input reads as it did. -/
def lruDropsUptoRow : OpenClaim := { program := "ytnickcjkipemmaa", sum := "82a6c67ecc66a8d729b4d7f69b2679ed74a7ab3c3bea004d63dfd544ae0baf02", func := "firkin/firkinlaw10.LruDrops", spec := "lruDrops", apart := false, narrowed := true }
def LruDropsUptoSaid : Prop := lruDropsUptoRow.holds Try.pinned (OpenSpec.upto lruDropsSpec)

/-- 'firkinlaw10.LruMost', WHERE WHAT IT READS IS OF BULK AT MOST 1048576: true; the input reads as it did. -/
def lruMostUptoRow : OpenClaim := { program := "ytnickcjkipemmaa", sum := "82a6c67ecc66a8d729b4d7f69b2679ed74a7ab3c3bea004d63dfd544ae0baf02", func := "firkin/firkinlaw10.LruMost", spec := "lruMost", apart := false, narrowed := true }
def LruMostUptoSaid : Prop := lruMostUptoRow.holds Try.pinned (OpenSpec.upto lruMostSpec)

/-- 'firkinlaw10.LruCleans', WHERE WHAT IT READS IS OF BULK AT MOST 1048576: true; the input reads as it did. -/
def lruCleansUptoRow : OpenClaim := { program := "ytnickcjkipemmaa", sum := "82a6c67ecc66a8d729b4d7f69b2679ed74a7ab3c3bea004d63dfd544ae0baf02", func := "firkin/firkinlaw10.LruCleans", spec := "lruCleans", unfollowed := true, recurses := true, apart := false, narrowed := true }
def LruCleansUptoSaid : Prop := lruCleansUptoRow.holds Try.pinned (OpenSpec.upto lruCleansSpec)

/-- 'firkinlaw10.LruPlays', WHERE WHAT IT READS IS OF BULK AT MOST 1048576: true; the input reads as it did. -/
def lruPlaysUptoRow : OpenClaim := { program := "ytnickcjkipemmaa", sum := "82a6c67ecc66a8d729b4d7f69b2679ed74a7ab3c3bea004d63dfd544ae0baf02", func := "firkin/firkinlaw10.LruPlays", spec := "lruPlays", unfollowed := true, recurses := true, apart := false, narrowed := true }
def LruPlaysUptoSaid : Prop := lruPlaysUptoRow.holds Try.pinned (OpenSpec.upto lruPlaysSpec)

/-- 'firkinlaw11.DftlMakes', WHERE WHAT IT READS IS OF BULK AT MOST 1048576: true; the input reads as it did. -/
def dftlMakesUptoRow : OpenClaim := { program := "ytnickcjkipemmaa", sum := "82a6c67ecc66a8d729b4d7f69b2679ed74a7ab3c3bea004d63dfd544ae0baf02", func := "firkin/firkinlaw11.DftlMakes", spec := "dftlMakes", unfollowed := true, recurses := true, apart := false, narrowed := true }
def DftlMakesUptoSaid : Prop := dftlMakesUptoRow.holds Try.pinned (OpenSpec.upto dftlMakesSpec)

/-- 'firkinlaw11.DftlSpares', WHERE WHAT IT READS IS OF BULK AT MOST 1048576: true; the input reads as it did. -/
def dftlSparesUptoRow : OpenClaim := { program := "ytnickcjkipemmaa", sum := "82a6c67ecc66a8d729b4d7f69b2679ed74a7ab3c3bea004d63dfd544ae0baf02", func := "firkin/firkinlaw11.DftlSpares", spec := "dftlSpares", unfollowed := true, recurses := true, apart := false, narrowed := true }
def DftlSparesUptoSaid : Prop := dftlSparesUptoRow.holds Try.pinned (OpenSpec.upto dftlSparesSpec)

/-- 'firkinlaw11.DftlSame', WHERE WHAT IT READS IS OF BULK AT MOST 1048576: true; the input reads as it did. -/
def dftlSameUptoRow : OpenClaim := { program := "ytnickcjkipemmaa", sum := "82a6c67ecc66a8d729b4d7f69b2679ed74a7ab3c3bea004d63dfd544ae0baf02", func := "firkin/firkinlaw11.DftlSame", spec := "dftlSame", unfollowed := true, recurses := true, apart := false, narrowed := true }
def DftlSameUptoSaid : Prop := dftlSameUptoRow.holds Try.pinned (OpenSpec.upto dftlSameSpec)

/-- 'firkinlaw11.DftlPlays', WHERE WHAT IT READS IS OF BULK AT MOST 1048576: true; the input reads as it did. -/
def dftlPlaysUptoRow : OpenClaim := { program := "ytnickcjkipemmaa", sum := "82a6c67ecc66a8d729b4d7f69b2679ed74a7ab3c3bea004d63dfd544ae0baf02", func := "firkin/firkinlaw11.DftlPlays", spec := "dftlPlays", unfollowed := true, recurses := true, apart := false, narrowed := true }
def DftlPlaysUptoSaid : Prop := dftlPlaysUptoRow.holds Try.pinned (OpenSpec.upto dftlPlaysSpec)

end Rows
end Go.Proofs.Ytnickcjkipemmaa
