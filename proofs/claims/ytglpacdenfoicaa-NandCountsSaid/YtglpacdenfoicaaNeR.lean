/- nand: what an operation counts -/
import Derived.Test.YtglpacdenfoicaaNeH
namespace Go.Proofs.Ytglpacdenfoicaa
open Go.RowKit

/-- an operation's counts -/
structure Outc (A A' : Nd) (code : Int) (dr dp de : Nat) : Prop where
  reads : A'.reads = A.reads + dr
  programs : A'.programs = A.programs + dp
  erases : A'.erases = A.erases + de
  ops : A'.ops = A.ops + 1
  fails : A'.fails = A.fails + if code = 43 then 1 else 0
  cuts : A'.cuts = A.cuts + if code = 40 then 1 else 0
  code : code = 0 ∨ code = 40 ∨ code = 41 ∨ code = 43
  S : A'.S = A.S
structure SameC (A A' : Nd) : Prop where
  reads : A'.reads = A.reads
  programs : A'.programs = A.programs
  erases : A'.erases = A.erases
  ops : A'.ops = A.ops
  fails : A'.fails = A.fails
  cuts : A'.cuts = A.cuts
  S : A'.S = A.S
theorem doOp_outc {A A1 : Nd} {d dr dp de : Nat} {whole : Nd → Int × Nd} {part : Nd → Int → Nd} (h1 : A1.reads = A.reads + dr) (h2 : A1.programs = A.programs + dp) (h3 : A1.erases = A.erases + de) (h4 : A1.ops = A.ops + 1) (h5 : A1.fails = A.fails) (h6 : A1.cuts = A.cuts) (h7 : A1.S = A.S)
    (hw : SameC A1 (whole A1).2 ∧ ((whole A1).1 = 0 ∨ (whole A1).1 = 43)) (hp : ∀ q, SameC { A1 with off := true, cuts := A.cuts + 1 } (part { A1 with off := true, cuts := A.cuts + 1 } q)) : Outc A (A.doOp A1 d whole part).2 (A.doOp A1 d whole part).1 dr dp de := by
  unfold Nd.doOp
  split
  · by_cases hd : A.dead d = true
    · show Outc A (if A.dead d = true then _ else _) 40 dr dp de
      rw [if_pos hd]
      exact ⟨h1, h2, h3, h4, by rw [if_neg (by decide)]; exact h5, by rw [if_pos rfl], by simp, h7⟩
    · show Outc A (if A.dead d = true then _ else _) 40 dr dp de
      rw [if_neg hd]
      have hq := hp
      rename_i p hc
      obtain ⟨q1, q2, q3, q4, q5, q6, q7⟩ := hp p
      exact ⟨q1.trans h1, q2.trans h2, q3.trans h3, q4.trans h4, by rw [if_neg (by decide)]; exact q5.trans h5, by rw [if_pos rfl]; exact q6, by simp, q7.trans h7⟩
  · by_cases hd : A.dead d = true
    · rw [if_pos hd]
      show Outc A A1 41 dr dp de
      exact ⟨h1, h2, h3, h4, by rw [if_neg (by decide)]; exact h5, by rw [if_neg (by decide)]; exact h6, by simp, h7⟩
    · rw [if_neg hd]
      obtain ⟨⟨q1, q2, q3, q4, q5, q6, q7⟩, hcode⟩ := hw
      by_cases hc : (whole A1).1 = 43
      · rw [if_pos hc]
        show Outc A { (whole A1).2 with fails := (whole A1).2.fails + 1 } 43 dr dp de
        exact ⟨q1.trans h1, q2.trans h2, q3.trans h3, q4.trans h4, by rw [if_pos rfl]; show (whole A1).2.fails + 1 = _; rw [q5, h5], by rw [if_neg (by decide)]; exact q6.trans h6, by simp, q7.trans h7⟩
      · rw [if_neg hc]
        have h0 : (whole A1).1 = 0 := hcode.resolve_right hc
        exact ⟨q1.trans h1, q2.trans h2, q3.trans h3, q4.trans h4, by rw [h0, if_neg (by decide)]; exact q5.trans h5, by rw [h0, if_neg (by decide)]; exact q6.trans h6, .inl h0, q7.trans h7⟩
theorem SameC.refl (A : Nd) : SameC A A := ⟨rfl, rfl, rfl, rfl, rfl, rfl, rfl⟩
theorem prog_outc (A : Nd) (d n p : Nat) (l : List Int) : Outc A (A.prog d n p l).2 (A.prog d n p l).1 0 1 0 := by
  refine doOp_outc (A1 := A.tickP) (part := Nd.progP A.ops d n p l) rfl rfl rfl rfl rfl rfl rfl ?_ ?_
  · unfold Nd.progW
    split
    · exact ⟨⟨rfl, rfl, rfl, rfl, rfl, rfl, rfl⟩, .inr rfl⟩
    · exact ⟨⟨rfl, rfl, rfl, rfl, rfl, rfl, rfl⟩, .inl rfl⟩
  · intro q
    unfold Nd.progP
    split
    · exact ⟨rfl, rfl, rfl, rfl, rfl, rfl, rfl⟩
    · exact ⟨rfl, rfl, rfl, rfl, rfl, rfl, rfl⟩
theorem erase_outc (A : Nd) (d n : Nat) : Outc A (A.erase d n).2 (A.erase d n).1 0 0 1 := by
  refine doOp_outc (A1 := A.tickE) (part := Nd.eraseP A.ops d n) rfl rfl rfl rfl rfl rfl rfl ?_ ?_
  · unfold Nd.eraseW
    split
    · exact ⟨⟨rfl, rfl, rfl, rfl, rfl, rfl, rfl⟩, .inr rfl⟩
    · exact ⟨⟨rfl, rfl, rfl, rfl, rfl, rfl, rfl⟩, .inl rfl⟩
  · intro q
    unfold Nd.eraseP
    simp only
    split
    · exact ⟨rfl, rfl, rfl, rfl, rfl, rfl, rfl⟩
    · exact ⟨rfl, rfl, rfl, rfl, rfl, rfl, rfl⟩
theorem read_outc (A : Nd) (d n p : Nat) : Outc A (A.read d n p).2 (A.read d n p).1 1 0 0 :=
  doOp_outc (A1 := A.tickR) (part := fun A _ => A) rfl rfl rfl rfl rfl rfl rfl ⟨⟨rfl, rfl, rfl, rfl, rfl, rfl, rfl⟩, .inl rfl⟩ (fun _ => SameC.refl _)
end Go.Proofs.Ytglpacdenfoicaa
