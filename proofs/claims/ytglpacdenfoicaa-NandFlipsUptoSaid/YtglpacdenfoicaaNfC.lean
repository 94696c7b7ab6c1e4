/- NandFlips: whatever the arguments -/
import Derived.Test.YtglpacdenfoicaaNfB
namespace Go.Proofs.Ytglpacdenfoicaa
open Go.RowKit

theorem flips_any (xa ba : Option Addr) (n xc mb bc : Nat) (l X : List Int) (x2 x3 : Int) (w : World) (h2 : -9223372036854775808 ≤ x2 ∧ x2 ≤ 9223372036854775807) (h3 : -9223372036854775808 ≤ x3 ∧ x3 ≤ 9223372036854775807)
    (hx : NumsAt .u8 w xa l) (hl : l.length = n) (hxc : n ≤ xc) (hb : NumsAt .i64 w ba X) (hX : X.length = mb) (hXr : ∀ j, j < mb → -9223372036854775808 ≤ gi X j ∧ gi X j ≤ 9223372036854775807) :
    Calls Try.prog 3 #[.slice xa n xc, .slice ba mb bc, .int .i64 x2, .int .i64 x3] w fun e w' => e = .returned (.bool true) ∧ Keeps Nil w w' := by
  by_cases h : n = 0 ∨ 100 < n ∨ 20 < mb
  · exact flips_out xa ba n xc mb bc x2 x3 w h
  · exact flips3 xa ba n xc mb bc l X x2 x3 w (by omega) (by omega) h2 h3 hx hl hxc hb hX hXr
end Go.Proofs.Ytglpacdenfoicaa
