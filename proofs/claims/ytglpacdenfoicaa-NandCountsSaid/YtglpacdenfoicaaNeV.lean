/- NandCounts: whatever the faults -/
import Derived.Test.YtglpacdenfoicaaNeU
namespace Go.Proofs.Ytglpacdenfoicaa
open Go.RowKit

theorem counts8 (fa a : Option Addr) (m0 fc m sc : Nat) (LA : List Fx) (L : List OpN) (w : World) (hF : FtsAt w fa LA) (hF0 : LA.length = m0) (hL : OpsAt w a L) (hm : L.length = m) (hm2 : m ≤ 140737488351232) :
    Calls Try.prog 8 #[.slice fa m0 fc, .slice a m sc] w fun e w' => e = .returned (.bool true) ∧ Keeps Nil w w' := by
  by_cases h2 : m0 ≤ 2000
  · by_cases hall : (LA.map (·.f)).all (·.may ⟨2, 2, 3, 2⟩) = true
    · exact counts_ok fa a m0 fc m sc LA L w hF hF0 h2 hall hL hm hm2
    · refine counts_bad fa a m0 fc m sc w fun w' hk => ?_
      have := newI_bad (S := ⟨2, 2, 3, 2⟩) (fc := fc) cnt_fits (hF.nil hk) (by omega) (by simpa using hall)
      rw [hF0] at this
      exact this
  · exact counts_bad fa a m0 fc m sc w fun w' _ => new12_many cnt_fits (by omega)
end Go.Proofs.Ytglpacdenfoicaa
