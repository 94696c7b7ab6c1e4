/- an array of dies, blocks and pages, with faults: what its calls do, in plain Lean -/
import Derived.Test.YtglpacdenfoicaaRecs
import Derived.Test.YtglpacdenfoicaaTree
namespace Go.Proofs.Ytglpacdenfoicaa
open Go.RowKit

/-! ### the array -/
structure Sh where
  dies : Nat
  blocks : Nat
  pages : Nat
  bytes : Nat
structure Ft where
  kind : Int
  time : Int
  die : Int
  block : Int
  page : Int
  times : Int
  part : Int
  bits : List Int
  left : Nat
structure Bk where
  pg : Nat → Option (List Int)
  next : Int
  er : Nat
structure Nd where
  S : Sh
  B : Nat → Nat → Bk
  F : List Ft
  off : Bool
  ops : Nat
  reads : Nat
  programs : Nat
  erases : Nat
  flips : Int
  fails : Nat
  cuts : Nat
def Nd.setB (A : Nd) (d n : Nat) (k : Bk) : Nd := { A with B := fun i j => if i = d ∧ j = n then k else A.B i j }
theorem Nd.setB_same (A : Nd) (d n : Nat) (k : Bk) : (A.setB d n k).B d n = k := by simp [Nd.setB]
theorem Nd.setB_other (A : Nd) {d n i j : Nat} (k : Bk) (h : ¬ (i = d ∧ j = n)) : (A.setB d n k).B i j = A.B i j := by simp [Nd.setB, h]
theorem Nd.setB_setB (A : Nd) (d n : Nat) (k k' : Bk) : (A.setB d n k).setB d n k' = A.setB d n k' := by
  unfold Nd.setB
  simp only [Nd.mk.injEq, true_and, and_true]
  funext i j
  split <;> rfl

/-! ### faults -/
def Ft.hits (op kind die n : Int) (f : Ft) : Bool := f.kind == kind && (decide (f.time ≤ op) || kind == 6) && f.die == die && (kind == 4 || f.block == n)
def Ft.cuts (op : Int) (f : Ft) : Bool := f.kind == 5 && f.time == op
def Ft.now (op die n page : Int) (f : Ft) : Bool := !(f.kind != 1 || decide (op < f.time) || f.left == 0 || f.die != die || f.block != n || f.page != page)
/-- the first place at which a test holds -/
def firstF (p : Ft → Bool) : List Ft → Nat → Int
  | [], _ => -1
  | f :: r, k => if p f then (k : Int) else firstF p r (k + 1)
theorem firstF_neg {p : Ft → Bool} : ∀ {L : List Ft} {k : Nat}, firstF p L k = -1 ∨ (k : Int) ≤ firstF p L k
  | [], _ => .inl rfl
  | f :: r, k => by
    unfold firstF
    split
    · exact .inr (Int.le_refl _)
    · rcases firstF_neg (p := p) (L := r) (k := k + 1) with h | h
      · exact .inl h
      · right; omega
theorem firstF_any {p : Ft → Bool} : ∀ {L : List Ft} {k : Nat}, decide (0 ≤ firstF p L k) = L.any p
  | [], _ => rfl
  | f :: r, k => by
    unfold firstF
    rw [List.any_cons]
    split
    · rename_i h; rw [h]; simp
    · rename_i h; rw [firstF_any (L := r)]; simp [h]
theorem firstF_at {p : Ft → Bool} : ∀ {L : List Ft} {k : Nat}, 0 ≤ firstF p L k → ∃ i f, L[i]? = some f ∧ firstF p L k = ((k + i : Nat) : Int) ∧ L.find? p = some f ∧ p f = true
  | [], _, h => by simp [firstF] at h
  | f :: r, k, h => by
    unfold firstF at h ⊢
    by_cases hp : p f = true
    · rw [if_pos hp]; exact ⟨0, f, rfl, rfl, by simp [hp], hp⟩
    · rw [if_neg hp] at h ⊢
      obtain ⟨i, g, h1, h2, h3, h4⟩ := firstF_at h
      exact ⟨i + 1, g, h1, by rw [h2]; congr 1; omega, by simp [hp, h3], h4⟩
theorem firstF_none {p : Ft → Bool} {L : List Ft} {k : Nat} (h : firstF p L k = -1) : L.find? p = none := by
  have := firstF_any (p := p) (L := L) (k := k)
  rw [h] at this
  simp only [List.find?_eq_none]
  intro x hx hpx
  have : L.any p = true := List.any_eq_true.2 ⟨x, hx, hpx⟩
  simp_all

/-! ### operations -/
def Nd.struck (A : Nd) (op kind die n : Int) : Bool := A.F.any (·.hits op kind die n)
def Nd.cut (A : Nd) (op : Int) : Option Int := (A.F.find? (·.cuts op)).map (·.part)
def Nd.dead (A : Nd) (d : Nat) : Bool := A.struck A.ops 4 d 0
/-- an operation: what is done of it by 'whole', or at a cut by 'part' -/
def Nd.doOp (A : Nd) (A1 : Nd) (d : Nat) (whole : Nd → Int × Nd) (part : Nd → Int → Nd) : Int × Nd :=
  match A.cut A.ops with
  | some p => (40, if A.dead d then { A1 with off := true, cuts := A.cuts + 1 } else part { A1 with off := true, cuts := A.cuts + 1 } p)
  | none => if A.dead d then (41, A1) else
    if (whole A1).1 = 43 then (43, { (whole A1).2 with fails := (whole A1).2.fails + 1 }) else whole A1

/-! programming -/
def Nd.badP (A : Nd) (op : Int) (d n : Nat) (kind : Int) : Bool := A.struck op kind d n || A.struck op 6 d n
def setPg (k : Bk) (p : Nat) (l : List Int) : Bk := { k with pg := fun i => if i = p then some l else k.pg i }
def Bk.at (k : Bk) (x : Int) : Bk := { k with next := x }
def Bk.wear (k : Bk) : Bk := { k with er := k.er + 1 }
def Bk.clear (k : Bk) (m : Nat) : Bk := { k with pg := fun i => if i < m then none else k.pg i }
def Nd.progBad (A : Nd) (d n p : Nat) : Nd := A.setB d n (setPg ((A.B d n).at ((p : Int) + 1)) p (List.replicate A.S.bytes 0))
def Nd.progOk (A : Nd) (d n p : Nat) (l : List Int) : Nd := A.setB d n (setPg ((A.B d n).at ((p : Int) + 1)) p l)
def Nd.progW (op : Int) (d n p : Nat) (l : List Int) (A : Nd) : Int × Nd := if A.badP op d n 2 then (43, A.progBad d n p) else (0, A.progOk d n p l)
def cutAt (m : Nat) (bytes : Nat) (l : List Int) : List Int := l.take m ++ List.replicate (bytes - (l.take m).length) 255
def Nd.progP (op : Int) (d n p : Nat) (l : List Int) (A : Nd) (part : Int) : Nd := if A.badP op d n 2 then A.progBad d n p else A.progOk d n p (cutAt part.toNat A.S.bytes l)
def Nd.prog (A : Nd) (d n p : Nat) (l : List Int) : Int × Nd :=
  A.doOp { A with ops := A.ops + 1, programs := A.programs + 1 } d (Nd.progW A.ops d n p l) (Nd.progP A.ops d n p l)

/-! erasing -/
def Nd.wear (A : Nd) (d n : Nat) : Nd := A.setB d n (A.B d n).wear
def Nd.eraseOk (A : Nd) (d n : Nat) : Nd := A.setB d n (((A.B d n).clear A.S.pages).at 0)
def Nd.eraseW (op : Int) (d n : Nat) (A : Nd) : Int × Nd := if A.badP op d n 3 then (43, A.wear d n) else (0, (A.wear d n).eraseOk d n)
def Nd.eraseCut (A : Nd) (d n : Nat) (m : Nat) : Nd := A.setB d n ((A.B d n).clear m)
def Nd.eraseP (op : Int) (d n : Nat) (A : Nd) (part : Int) : Nd :=
  let A1 := if A.badP op d n 3 then A.wear d n else (A.wear d n).eraseCut d n (min part.toNat A.S.pages)
  A1.setB d n ((A1.B d n).at (-1))
def Nd.erase (A : Nd) (d n : Nat) : Int × Nd :=
  A.doOp { A with ops := A.ops + 1, erases := A.erases + 1 } d (Nd.eraseW A.ops d n) (Nd.eraseP A.ops d n)

/-! reading -/
def pgBytes (bytes : Nat) : Option (List Int) → List Int
  | none => List.replicate bytes 255
  | some l => l
def turnB (l : List Int) (k : Int) : List Int := l.set (k / 8).toNat (bits .xor .u8 (gi l (k / 8).toNat) (128 / 2 ^ (k % 8).toNat))
def flipB (st : List Int × Int) (k : Int) : List Int × Int := (turnB st.1 k, wrap64 (st.2 + 1))
def flipF (op die n page : Int) (st : List Int × Int) (f : Ft) : List Int × Int := if f.now op die n page then f.bits.foldl flipB st else st
def Ft.tick (op die n page : Int) (f : Ft) : Ft := if f.now op die n page then { f with left := f.left - 1 } else f
def Nd.readSt (A : Nd) (op : Int) (d n p : Nat) : List Int × Int := A.F.foldl (flipF op d n p) (pgBytes A.S.bytes ((A.B d n).pg p), A.flips)
def Nd.readW (op : Int) (d n p : Nat) (A : Nd) : Int × Nd := (0, { A with F := A.F.map (Ft.tick op d n p), flips := (A.readSt op d n p).2 })
def Nd.read (A : Nd) (d n p : Nat) : Int × Nd :=
  A.doOp { A with ops := A.ops + 1, reads := A.reads + 1 } d (Nd.readW A.ops d n p) (fun A _ => A)
/-- what a read answers: nothing at a cut, of a dead die -/
def Nd.readOut (A : Nd) (d n p : Nat) : Option (List Int) :=
  match A.cut A.ops with
  | some _ => none
  | none => if A.dead d then none else some (A.readSt A.ops d n p).1

/-! ### what stays -/
structure Sh.Ok (S : Sh) : Prop where
  d1 : 1 ≤ S.dies
  d2 : S.dies ≤ 8
  b1 : 1 ≤ S.blocks
  b2 : S.blocks ≤ 64
  p1 : 1 ≤ S.pages
  p2 : S.pages ≤ 64
  n1 : 1 ≤ S.bytes
  n2 : S.bytes ≤ 4096
structure Ft.Ok (S : Sh) (f : Ft) : Prop where
  bits : ∀ k ∈ f.bits, 0 ≤ k ∧ k < 8 * (S.bytes : Int)
  blen : f.bits.length ≤ 20000000000000
  part : 0 ≤ f.part ∧ f.part ≤ 9223372036854775807
  left : (f.left : Int) ≤ 9223372036854775807
structure Nd.Ok (A : Nd) : Prop where
  S : A.S.Ok
  F : ∀ f ∈ A.F, f.Ok A.S
  len : A.F.length ≤ 2000
  pages : ∀ d n p l, (A.B d n).pg p = some l → l.length = A.S.bytes
/-- so many calls at most -/
structure Nd.Lt (A : Nd) (b : Nat) : Prop where
  ops : A.ops ≤ b
  reads : A.reads ≤ b
  programs : A.programs ≤ b
  erases : A.erases ≤ b
  fails : A.fails ≤ b
  cuts : A.cuts ≤ b
  er : ∀ d n, (A.B d n).er ≤ b
  next : ∀ d n, -1 ≤ (A.B d n).next ∧ (A.B d n).next ≤ (A.S.pages : Int)
end Go.Proofs.Ytglpacdenfoicaa
