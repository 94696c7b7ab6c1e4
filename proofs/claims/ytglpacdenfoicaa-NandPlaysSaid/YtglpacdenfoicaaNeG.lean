/- nand: what every operation keeps -/
import Derived.Test.YtglpacdenfoicaaNdQ
namespace Go.Proofs.Ytglpacdenfoicaa
open Go.RowKit

structure Nd.Good (A : Nd) (b : Nat) : Prop where
  ok : A.Ok
  lt : A.Lt b
structure BkOk (S : Sh) (b : Nat) (k : Bk) : Prop where
  pg : ∀ p l, k.pg p = some l → l.length = S.bytes
  er : k.er ≤ b
  n1 : -1 ≤ k.next
  n2 : k.next ≤ (S.pages : Int)
variable {A : Nd} {b d n p : Nat}
theorem Nd.Good.bk (h : A.Good b) (d n : Nat) : BkOk A.S b (A.B d n) := ⟨h.ok.pages d n, h.lt.er d n, (h.lt.next d n).1, (h.lt.next d n).2⟩
theorem BkOk.mono {S : Sh} {c : Nat} {k : Bk} (h : BkOk S b k) (hc : b ≤ c) : BkOk S c k := ⟨h.pg, Nat.le_trans h.er hc, h.n1, h.n2⟩
theorem Nd.Good.mono {c : Nat} (h : A.Good b) (hc : b ≤ c) : A.Good c :=
  ⟨h.ok, ⟨Nat.le_trans h.lt.ops hc, Nat.le_trans h.lt.reads hc, Nat.le_trans h.lt.programs hc, Nat.le_trans h.lt.erases hc, Nat.le_trans h.lt.fails hc, Nat.le_trans h.lt.cuts hc, fun d n => Nat.le_trans (h.lt.er d n) hc, h.lt.next⟩⟩
theorem Nd.Good.setB (h : A.Good b) {k : Bk} (hk : BkOk A.S b k) (d n : Nat) : (A.setB d n k).Good b := by
  have hB : ∀ i j, BkOk A.S b ((A.setB d n k).B i j) := fun i j => by
    by_cases e : i = d ∧ j = n
    · obtain ⟨rfl, rfl⟩ := e
      rw [Nd.setB_same]; exact hk
    · rw [Nd.setB_other _ _ e]; exact h.bk i j
  exact ⟨⟨h.ok.S, h.ok.F, h.ok.len, fun i j => (hB i j).pg⟩, ⟨h.lt.ops, h.lt.reads, h.lt.programs, h.lt.erases, h.lt.fails, h.lt.cuts, fun i j => (hB i j).er, fun i j => ⟨(hB i j).n1, (hB i j).n2⟩⟩⟩
/-- an operation's counters -/
theorem Nd.Good.tick (h : A.Good b) {A1 : Nd} (h1 : A1.S = A.S) (h2 : A1.F = A.F) (h3 : A1.B = A.B) (q1 : A1.ops ≤ b + 1) (q2 : A1.reads ≤ b + 1) (q3 : A1.programs ≤ b + 1) (q4 : A1.erases ≤ b + 1) (q5 : A1.fails ≤ b + 1) (q6 : A1.cuts ≤ b + 1) : A1.Good (b + 1) := by
  refine ⟨⟨by rw [h1]; exact h.ok.S, by rw [h1, h2]; exact h.ok.F, by rw [h2]; exact h.ok.len, by rw [h1, h3]; exact h.ok.pages⟩, ⟨q1, q2, q3, q4, q5, q6, by rw [h3]; exact fun d n => Nat.le_succ_of_le (h.lt.er d n), by rw [h1, h3]; exact h.lt.next⟩⟩
theorem doOp_ind {P : Nd → Prop} {A1 : Nd} {whole : Nd → Int × Nd} {part : Nd → Int → Nd} (h1 : P { A1 with off := true, cuts := A.cuts + 1 }) (h2 : ∀ q, P (part { A1 with off := true, cuts := A.cuts + 1 } q)) (h3 : P A1) (h4 : P (whole A1).2) (h5 : P { (whole A1).2 with fails := (whole A1).2.fails + 1 }) :
    P (A.doOp A1 d whole part).2 := by
  unfold Nd.doOp
  split
  · show P (if _ then _ else _)
    split
    · exact h1
    · exact h2 _
  · split
    · exact h3
    · split
      · exact h5
      · exact h4
theorem Nd.Good.fails (h : A.Good b) {f : Nat} (hf : f ≤ b) : Nd.Good { A with fails := f } b :=
  ⟨⟨h.ok.S, h.ok.F, h.ok.len, h.ok.pages⟩, ⟨h.lt.ops, h.lt.reads, h.lt.programs, h.lt.erases, hf, h.lt.cuts, h.lt.er, h.lt.next⟩⟩
theorem Nd.Good.cut (h : A.Good b) {c : Nat} (hc : c ≤ b) (o : Bool) : Nd.Good { A with off := o, cuts := c } b :=
  ⟨⟨h.ok.S, h.ok.F, h.ok.len, h.ok.pages⟩, ⟨h.lt.ops, h.lt.reads, h.lt.programs, h.lt.erases, h.lt.fails, hc, h.lt.er, h.lt.next⟩⟩
theorem Nd.Good.on (h : A.Good b) (o : Bool) : Nd.Good { A with off := o } b :=
  ⟨⟨h.ok.S, h.ok.F, h.ok.len, h.ok.pages⟩, ⟨h.lt.ops, h.lt.reads, h.lt.programs, h.lt.erases, h.lt.fails, h.lt.cuts, h.lt.er, h.lt.next⟩⟩
theorem BkOk.prog {S : Sh} {k : Bk} (h : BkOk S b k) (hp : p < S.pages) {l : List Int} (hl : l.length = S.bytes) : BkOk S b (setPg (k.at ((p : Int) + 1)) p l) := by
  refine ⟨?_, h.er, ?_, ?_⟩
  · intro q m hm
    change (if q = p then some l else k.pg q) = some m at hm
    split at hm
    · cases hm; exact hl
    · exact h.pg q m hm
  · show -1 ≤ (p : Int) + 1
    omega
  · show (p : Int) + 1 ≤ (S.pages : Int)
    omega
theorem cutAt_len' {m bytes : Nat} {l : List Int} (h : l.length = bytes) : (cutAt m bytes l).length = bytes := by
  unfold cutAt
  rw [List.length_append, List.length_replicate]
  have : (l.take m).length ≤ bytes := by rw [List.length_take]; omega
  omega
theorem prog_good (h : A.Good b) (d n : Nat) (hp : p < A.S.pages) {l : List Int} (hl : l.length = A.S.bytes) : (A.prog d n p l).2.Good (b + 1) := by
  have hT : A.tickP.Good (b + 1) := h.tick rfl rfl rfl (Nat.succ_le_succ h.lt.ops) (Nat.le_succ_of_le h.lt.reads) (Nat.succ_le_succ h.lt.programs) (Nat.le_succ_of_le h.lt.erases) (Nat.le_succ_of_le h.lt.fails) (Nat.le_succ_of_le h.lt.cuts)
  have hW : ∀ {C : Nd}, C.Good (b + 1) → C.S = A.S → (Nd.progW A.ops d n p l C).2.Good (b + 1) := fun {C} hC hS => by
    unfold Nd.progW
    split
    · exact hC.setB ((hC.bk d n).prog (by rw [hS]; exact hp) (by simp)) d n
    · exact hC.setB ((hC.bk d n).prog (by rw [hS]; exact hp) (by rw [hS]; exact hl)) d n
  have hC := hT.cut (c := A.cuts + 1) (Nat.succ_le_succ h.lt.cuts) true
  refine doOp_ind (P := fun C => C.Good (b + 1)) hC ?_ hT (hW hT rfl) ?_
  · intro q
    unfold Nd.progP
    split
    · exact hC.setB ((hC.bk d n).prog (by exact hp) (by rw [List.length_replicate]; rfl)) d n
    · exact hC.setB ((hC.bk d n).prog (by exact hp) (by exact cutAt_len' hl)) d n
  · refine (hW hT rfl).fails ?_
    rw [progW_fails]
    exact Nat.succ_le_succ h.lt.fails
theorem BkOk.clear {S : Sh} {k : Bk} (h : BkOk S b k) (m : Nat) {x : Int} (h1 : -1 ≤ x) (h2 : x ≤ (S.pages : Int)) : BkOk S b ((k.clear m).at x) := by
  refine ⟨?_, h.er, h1, h2⟩
  intro q l hl
  change (if q < m then none else k.pg q) = some l at hl
  split at hl
  · cases hl
  · exact h.pg q l hl
theorem BkOk.wear {S : Sh} {k : Bk} (h : BkOk S b k) : BkOk S (b + 1) k.wear := ⟨h.pg, Nat.succ_le_succ h.er, h.n1, h.n2⟩
theorem BkOk.at {S : Sh} {k : Bk} (h : BkOk S b k) {x : Int} (h1 : -1 ≤ x) (h2 : x ≤ (S.pages : Int)) : BkOk S b (k.at x) := ⟨h.pg, h.er, h1, h2⟩
theorem erase_good (h : A.Good b) (d n : Nat) : (A.erase d n).2.Good (b + 1) := by
  have hT : A.tickE.Good (b + 1) := h.tick rfl rfl rfl (Nat.succ_le_succ h.lt.ops) (Nat.le_succ_of_le h.lt.reads) (Nat.le_succ_of_le h.lt.programs) (Nat.succ_le_succ h.lt.erases) (Nat.le_succ_of_le h.lt.fails) (Nat.le_succ_of_le h.lt.cuts)
  have hWr : ∀ {C : Nd}, C.Good (b + 1) → C.S = A.S → C.B = A.B → (C.wear d n).Good (b + 1) := fun {C} hC hS hB => by
    unfold Nd.wear
    refine hC.setB ?_ d n
    rw [hS, hB]
    exact (h.bk d n).wear
  have hW : (Nd.eraseW A.ops d n A.tickE).2.Good (b + 1) := by
    unfold Nd.eraseW
    split
    · exact hWr hT rfl rfl
    · exact (hWr hT rfl rfl).setB (((hWr hT rfl rfl).bk d n).clear _ (by omega) (by omega)) d n
  have hC := hT.cut (c := A.cuts + 1) (Nat.succ_le_succ h.lt.cuts) true
  refine doOp_ind (P := fun C => C.Good (b + 1)) hC ?_ hT hW ?_
  · intro q
    have h1 : ∀ {C : Nd}, C.Good (b + 1) → (C.setB d n ((C.B d n).at (-1))).Good (b + 1) := fun {C} hC => hC.setB ((hC.bk d n).at (by omega) (by omega)) d n
    unfold Nd.eraseP
    refine h1 ?_
    split
    · exact hWr hC rfl rfl
    · have h2 := hWr hC rfl rfl
      refine h2.setB ?_ d n
      have h3 := h2.bk d n
      refine ⟨?_, h3.er, h3.n1, h3.n2⟩
      intro i l hl
      unfold Bk.clear at hl
      simp only at hl
      split at hl
      · cases hl
      · exact h3.pg i l hl
  · refine hW.fails ?_
    rw [eraseW_fails]
    exact Nat.succ_le_succ h.lt.fails
theorem Ft.Ok.tick {S : Sh} {f : Ft} (h : f.Ok S) (op die n page : Int) : (f.tick op die n page).Ok S := by
  unfold Ft.tick
  split
  · refine ⟨h.bits, h.blen, h.part, ?_⟩
    have := h.left
    show ((f.left - 1 : Nat) : Int) ≤ _
    omega
  · exact h
theorem readW_good {C : Nd} {c : Nat} (hC : C.Good c) (op : Int) (d n p : Nat) : (Nd.readW op d n p C).2.Good c := by
  refine ⟨⟨hC.ok.S, ?_, ?_, hC.ok.pages⟩, ⟨hC.lt.ops, hC.lt.reads, hC.lt.programs, hC.lt.erases, hC.lt.fails, hC.lt.cuts, hC.lt.er, hC.lt.next⟩⟩
  · intro f hf
    obtain ⟨g, hg, rfl⟩ := List.mem_map.1 hf
    exact (hC.ok.F g hg).tick _ _ _ _
  · show (C.F.map _).length ≤ 2000
    rw [List.length_map]; exact hC.ok.len
theorem read_good (h : A.Good b) (d n p : Nat) : (A.read d n p).2.Good (b + 1) := by
  have hT : A.tickR.Good (b + 1) := h.tick rfl rfl rfl (Nat.succ_le_succ h.lt.ops) (Nat.succ_le_succ h.lt.reads) (Nat.le_succ_of_le h.lt.programs) (Nat.le_succ_of_le h.lt.erases) (Nat.le_succ_of_le h.lt.fails) (Nat.le_succ_of_le h.lt.cuts)
  have hC := hT.cut (c := A.cuts + 1) (Nat.succ_le_succ h.lt.cuts) true
  refine doOp_ind (P := fun C => C.Good (b + 1)) hC (fun _ => hC) hT (readW_good hT _ _ _ _) ?_
  exact (readW_good hT A.ops d n p).fails (Nat.succ_le_succ h.lt.fails)
/-- the shape stays -/
theorem prog_S (A : Nd) (d n p : Nat) (l : List Int) : (A.prog d n p l).2.S = A.S := by
  refine doOp_ind (P := fun C => C.S = A.S) rfl ?_ rfl ?_ ?_
  · intro q; unfold Nd.progP; split <;> rfl
  · unfold Nd.progW; split <;> rfl
  · unfold Nd.progW; split <;> rfl
theorem erase_S (A : Nd) (d n : Nat) : (A.erase d n).2.S = A.S := by
  refine doOp_ind (P := fun C => C.S = A.S) rfl ?_ rfl ?_ ?_
  · intro q; unfold Nd.eraseP; simp only; split <;> rfl
  · unfold Nd.eraseW; split <;> rfl
  · unfold Nd.eraseW; split <;> rfl
theorem read_S (A : Nd) (d n p : Nat) : (A.read d n p).2.S = A.S := by
  refine doOp_ind (P := fun C => C.S = A.S) rfl (fun _ => rfl) rfl rfl rfl
end Go.Proofs.Ytglpacdenfoicaa
