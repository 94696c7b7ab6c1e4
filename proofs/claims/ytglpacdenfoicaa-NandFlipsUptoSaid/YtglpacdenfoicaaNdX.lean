/- nand: without faults -/
import Derived.Test.YtglpacdenfoicaaNdW
namespace Go.Proofs.Ytglpacdenfoicaa
open Go.RowKit

theorem struck_nil {A : Nd} (h : A.F = []) (op k d n : Int) : A.struck op k d n = false := by unfold Nd.struck; rw [h]; rfl
theorem cut_nil {A : Nd} (h : A.F = []) (op : Int) : A.cut op = none := by unfold Nd.cut; rw [h]; rfl
theorem dead_nil {A : Nd} (h : A.F = []) (d : Nat) : A.dead d = false := struck_nil h _ _ _ _
theorem badP_nil {A : Nd} (h : A.F = []) (op : Int) (d n : Nat) (k : Int) : A.badP op d n k = false := by unfold Nd.badP; rw [struck_nil h, struck_nil h]; rfl
theorem erase_nil {A : Nd} (h : A.F = []) (d n : Nat) : A.erase d n = (0, (A.tickE.wear d n).eraseOk d n) := by
  have hb : A.tickE.badP A.ops d n 3 = false := badP_nil h _ _ _ _
  have he : Nd.eraseW A.ops d n A.tickE = (0, (A.tickE.wear d n).eraseOk d n) := by unfold Nd.eraseW; rw [hb]; rfl
  unfold Nd.erase Nd.doOp
  rw [cut_nil h, dead_nil h]
  show (if (Nd.eraseW A.ops d n A.tickE).1 = 43 then _ else Nd.eraseW A.ops d n A.tickE) = _
  rw [he]
  rfl
theorem prog_nil {A : Nd} (h : A.F = []) (d n p : Nat) (l : List Int) : A.prog d n p l = (0, A.tickP.progOk d n p l) := by
  have hb : A.tickP.badP A.ops d n 2 = false := badP_nil h _ _ _ _
  have he : Nd.progW A.ops d n p l A.tickP = (0, A.tickP.progOk d n p l) := by unfold Nd.progW; rw [hb]; rfl
  unfold Nd.prog Nd.doOp
  rw [cut_nil h, dead_nil h]
  show (if (Nd.progW A.ops d n p l A.tickP).1 = 43 then _ else Nd.progW A.ops d n p l A.tickP) = _
  rw [he]
  rfl
end Go.Proofs.Ytglpacdenfoicaa
