/- nand: the calls, whatever the arguments -/
import Derived.Test.YtglpacdenfoicaaNeF
import Derived.Test.YtglpacdenfoicaaNeG
import Derived.Test.YtglpacdenfoicaaNdW
namespace Go.Proofs.Ytglpacdenfoicaa
open Go.RowKit

def inAt (S : Sh) (d n : Int) : Bool := decide (0 ≤ d ∧ d < S.dies ∧ 0 ≤ n ∧ n < S.blocks)
def inPg (S : Sh) (d n p : Int) : Bool := inAt S d n && decide (0 ≤ p ∧ p < S.pages)
def Nd.programI (A : Nd) (d n p : Int) (l : List Int) : Int × Nd :=
  if A.off = true then (40, A) else if (inPg A.S d n p && l.length == A.S.bytes) = false then (1, A) else if ¬ (A.B d.toNat n.toNat).next = p then (42, A) else A.prog d.toNat n.toNat p.toNat l
def Nd.eraseI (A : Nd) (d n : Int) : Int × Nd :=
  if A.off = true then (40, A) else if inAt A.S d n = false then (1, A) else A.erase d.toNat n.toNat
def Nd.readI (A : Nd) (d n p : Int) : Int × Nd :=
  if A.off = true then (40, A) else if inPg A.S d n p = false then (1, A) else A.read d.toNat n.toNat p.toNat
def Nd.readOutI (A : Nd) (d n p : Int) : Option (List Int) :=
  if A.off = true then none else if inPg A.S d n p = false then none else A.readOut d.toNat n.toNat p.toNat
def Nd.nextI (A : Nd) (d n : Int) : Int := if inAt A.S d n = true then (A.B d.toNat n.toNat).next else -1
def Nd.erasesI (A : Nd) (d n : Int) : Int := if inAt A.S d n = true then ((A.B d.toNat n.toNat).er : Int) else 0
def Nd.markedI (A : Nd) (d n : Int) : Bool := inAt A.S d n && A.struck 0 6 d n
/-- an array that the call made -/
structure NdO (w0 w : World) (ab : Nat) (A : Nd) (b : Nat) (O : Nat → Prop) : Prop where
  at' : NdAt w ab A O
  good : A.Good b
  keep : Keeps Nil w0 w
  new : ∀ k, O k → w0.heap.size ≤ k
def NdRes (w0 w : World) (ab : Nat) (O : Nat → Prop) (r : Value) (A' : Nd) (b : Nat) (e : Ending) (w' : World) : Prop :=
  e = .returned r ∧ ∃ O', NdO w0 w' ab A' b O' ∧ Keeps O w w' ∧ ∀ k, O' k → O k ∨ w.heap.size ≤ k
variable {w0 w1 w w' : World} {ab b : Nat} {A A' : Nd} {O T : Nat → Prop}
theorem NdO.nil (h : NdO w0 w ab A b O) (hk : Keeps Nil w w') : NdO w0 w' ab A b O := ⟨h.at'.nil hk, h.good, h.keep.trans hk, h.new⟩
theorem NdO.far (h : NdO w0 w ab A b O) (hk : Keeps T w w') (h1 : ∀ k, O k → ¬ T k) (h2 : ∀ k, T k → w0.heap.size ≤ k) : NdO w0 w' ab A b O := ⟨h.at'.keeps hk h1, h.good, h.keep.trans' hk (fun k hk => .inr (h2 k hk)), h.new⟩
theorem NdO.lt (h : NdO w0 w ab A b O) {k : Nat} (hk : O k) : k < w.heap.size := h.at'.lt hk
/-- nothing was done -/
theorem NdRes.same {r : Value} {e : Ending} (h : NdO w0 w ab A b O) (hk : Keeps Nil w w') (he : e = .returned r) : NdRes w0 w ab O r A (b + 1) e w' :=
  ⟨he, O, ⟨(h.nil hk).at', h.good.mono (Nat.le_succ b), (h.nil hk).keep, h.new⟩, hk.mono (fun _ h => h.elim), fun _ h => .inl h⟩
theorem NdOut.res {r : Value} {e : Ending} (h : NdO w0 w ab A b O) (ho : NdOut w ab O (.returned r) A' e w') (hg : A'.Good (b + 1)) : NdRes w0 w ab O r A' (b + 1) e w' := by
  obtain ⟨h1, O', h2, h3, h4⟩ := ho
  refine ⟨h1, O', ⟨h2, hg, h.keep.trans' h3 (fun k hk => .inr (h.new k hk)), fun k hk => ?_⟩, h3, h4⟩
  rcases h4 k hk with h5 | h5
  · exact h.new k h5
  · exact Nat.le_trans h.keep.size h5
theorem inAt_t {S : Sh} {d n : Int} (h : inAt S d n = true) : ∃ i j : Nat, d = i ∧ n = j ∧ i < S.dies ∧ j < S.blocks := by
  unfold inAt at h
  have h := of_decide_eq_true h
  obtain ⟨i, rfl⟩ := Int.eq_ofNat_of_zero_le h.1
  obtain ⟨j, rfl⟩ := Int.eq_ofNat_of_zero_le h.2.2.1
  exact ⟨i, j, rfl, rfl, by omega, by omega⟩
theorem inAt_f {S : Sh} {d n : Int} (h : inAt S d n = false) : d < 0 ∨ (S.dies : Int) ≤ d ∨ n < 0 ∨ (S.blocks : Int) ≤ n := by
  unfold inAt at h
  have h := of_decide_eq_false h
  omega
theorem programI_any (h : NdO w0 w1 ab A b O) (hb : b ≤ 1000000) (hk : Keeps Nil w1 w) (d n p : Int) {xa : Option Addr} {xc : Nat} {l : List Int} (hx : NumsAt .u8 w xa l) (hxO : ∀ g, blk xa = some g → g < w0.heap.size ∨ w1.heap.size ≤ g) (hxc : l.length ≤ xc) :
    Calls Try.prog 13 #[.pointer (some ⟨ab, 0, none⟩), .int .i64 d, .int .i64 n, .int .i64 p, .slice xa l.length xc] w (NdRes w0 w ab O (.int .i64 (A.programI d n p l).1) (A.programI d n p l).2 (b + 1)) := by
  have hw := h.nil hk
  obtain ⟨bb, bc, db, pb, fa, fc, L, hB⟩ := hw.at'
  unfold Nd.programI
  by_cases ho : A.off = true
  · rw [if_pos ho]
    exact (prog13_off hB ho d n p _).mono fun e w' ⟨h1, h2⟩ => NdRes.same hw (by rw [h2]; exact Keeps.refl _ _) h1
  · rw [if_neg ho]
    have hof : A.off = false := by simpa using ho
    by_cases hi : inAt A.S d n = true
    · obtain ⟨i, j, rfl, rfl, hd, hn⟩ := inAt_t hi
      by_cases hp : 0 ≤ p ∧ p < A.S.pages
      · obtain ⟨q, rfl⟩ := Int.eq_ofNat_of_zero_le hp.1
        have hq : q < A.S.pages := by omega
        have hpg : inPg A.S i j q = true := by unfold inPg; rw [hi]; simp [hq]
        by_cases hl : l.length = A.S.bytes
        · rw [if_neg (by rw [hpg, hl]; simp)]
          simp only [Int.toNat_natCast]
          by_cases hx2 : (A.B i j).next = (q : Int)
          · rw [if_neg (by simpa using hx2)]
            refine (prog13 hB hw.good.ok hw.good.lt hb hof hd hn hq hx2 hx ?_ hl hxc).mono fun e w' ho => NdOut.res hw ho (prog_good hw.good i j hq hl)
            intro g hg hO
            rcases hxO g hg with h1 | h1
            · have := h.new g hO; omega
            · have := h.lt hO; omega
          · rw [if_pos hx2]
            exact (prog13_order hB hof hd hn hq hl hx2).mono fun e w' ⟨h1, h2⟩ => NdRes.same hw (by rw [h2]; exact Keeps.refl _ _) h1
        · rw [if_pos (by rw [hpg]; simpa using hl)]
          exact (prog13_len hB hof hd hn hq hl).mono fun e w' ⟨h1, h2⟩ => NdRes.same hw (by rw [h2]; exact Keeps.refl _ _) h1
      · have hpg : inPg A.S i j p = false := by unfold inPg; rw [hi]; simpa using hp
        rw [if_pos (by rw [hpg]; rfl)]
        by_cases hp0 : p < 0
        · exact (prog13_low hB hof _ hd hn hp0).mono fun e w' ⟨h1, h2⟩ => NdRes.same hw (by rw [h2]; exact Keeps.refl _ _) h1
        · exact (prog13_high hB hof _ hd hn (by omega) (by omega)).mono fun e w' ⟨h1, h2⟩ => NdRes.same hw (by rw [h2]; exact Keeps.refl _ _) h1
    · have hi2 : inAt A.S d n = false := by simpa using hi
      rw [if_pos (by unfold inPg; rw [hi2]; rfl)]
      exact (prog13_at hB hof d n p _ (inAt_f hi2)).mono fun e w' ⟨h1, h2⟩ => NdRes.same hw (by rw [h2]; exact Keeps.refl _ _) h1
theorem eraseI_any (h : NdO w0 w ab A b O) (hb : b ≤ 1000000) (d n : Int) :
    Calls Try.prog 16 #[.pointer (some ⟨ab, 0, none⟩), .int .i64 d, .int .i64 n] w (NdRes w0 w ab O (.int .i64 (A.eraseI d n).1) (A.eraseI d n).2 (b + 1)) := by
  obtain ⟨bb, bc, db, pb, fa, fc, L, hB⟩ := h.at'
  unfold Nd.eraseI
  by_cases ho : A.off = true
  · rw [if_pos ho]
    exact (erase16_off hB ho d n).mono fun e w' ⟨h1, h2⟩ => NdRes.same h (by rw [h2]; exact Keeps.refl _ _) h1
  · rw [if_neg ho]
    have hof : A.off = false := by simpa using ho
    by_cases hi : inAt A.S d n = true
    · rw [if_neg (by rw [hi]; simp)]
      obtain ⟨i, j, rfl, rfl, hd, hn⟩ := inAt_t hi
      exact (erase16 hB h.good.ok h.good.lt hb hof hd hn).mono fun e w' ho => NdOut.res h ho (erase_good h.good i j)
    · have hi2 : inAt A.S d n = false := by simpa using hi
      rw [if_pos hi2]
      exact (erase16_arg hB hof d n (inAt_f hi2)).mono fun e w' ⟨h1, h2⟩ => NdRes.same h (by rw [h2]; exact Keeps.refl _ _) h1
/-- what a read leaves -/
def RdRes (w0 w : World) (ab : Nat) (O : Nat → Prop) (c : Int) (out : Option (List Int)) (A' : Nd) (b : Nat) (e : Ending) (w' : World) : Prop :=
  ∃ v, e = .returned (.tuple #[v, .int .i64 c]) ∧ ∃ O', NdO w0 w' ab A' b O' ∧ Keeps O w w' ∧ (∀ k, O' k → O k ∨ w.heap.size ≤ k) ∧ RdVal w w' O' v out
theorem RdRes.same {e : Ending} {c : Int} (h : NdO w0 w ab A b O) (hk : Keeps Nil w w') (he : e = .returned (.tuple #[.slice none 0 0, .int .i64 c])) : RdRes w0 w ab O c none A (b + 1) e w' :=
  ⟨_, he, O, ⟨(h.nil hk).at', h.good.mono (Nat.le_succ b), (h.nil hk).keep, h.new⟩, hk.mono (fun _ h => h.elim), fun _ h => .inl h, rfl⟩
theorem readI_any (h : NdO w0 w ab A b O) (hb : b ≤ 1000000) (d n p : Int) :
    Calls Try.prog 14 #[.pointer (some ⟨ab, 0, none⟩), .int .i64 d, .int .i64 n, .int .i64 p] w (RdRes w0 w ab O (A.readI d n p).1 (A.readOutI d n p) (A.readI d n p).2 (b + 1)) := by
  obtain ⟨bb, bc, db, pb, fa, fc, L, hB⟩ := h.at'
  unfold Nd.readI Nd.readOutI
  by_cases ho : A.off = true
  · rw [if_pos ho, if_pos ho]
    exact (read14_off hB ho d n p).mono fun e w' ⟨h1, h2⟩ => RdRes.same h h2 h1
  · rw [if_neg ho, if_neg ho]
    have hof : A.off = false := by simpa using ho
    by_cases hi : inAt A.S d n = true
    · obtain ⟨i, j, rfl, rfl, hd, hn⟩ := inAt_t hi
      by_cases hp : 0 ≤ p ∧ p < A.S.pages
      · obtain ⟨q, rfl⟩ := Int.eq_ofNat_of_zero_le hp.1
        have hq : q < A.S.pages := by omega
        have hpg : inPg A.S i j q = true := by unfold inPg; rw [hi]; simp [hq]
        rw [if_neg (by rw [hpg]; simp), if_neg (by rw [hpg]; simp)]
        simp only [Int.toNat_natCast]
        refine (read14 hB h.good.ok h.good.lt hb hof hd hn hq).mono fun e w' ho => ?_
        obtain ⟨v, h1, O', h2, h3, h4, h5⟩ := ho
        refine ⟨v, h1, O', ⟨h2, read_good h.good i j q, h.keep.trans' h3 (fun k hk => .inr (h.new k hk)), fun k hk => ?_⟩, h3, h4, h5⟩
        rcases h4 k hk with h6 | h6
        · exact h.new k h6
        · exact Nat.le_trans h.keep.size h6
      · have hpg : inPg A.S i j p = false := by unfold inPg; rw [hi]; simpa using hp
        rw [if_pos hpg, if_pos hpg]
        by_cases hp0 : p < 0
        · exact (read14_low hB hof hd hn hp0).mono fun e w' ⟨h1, h2⟩ => RdRes.same h h2 h1
        · exact (read14_high hB hof hd hn (by omega) (by omega)).mono fun e w' ⟨h1, h2⟩ => RdRes.same h h2 h1
    · have hi2 : inAt A.S d n = false := by simpa using hi
      have hpg : inPg A.S d n p = false := by unfold inPg; rw [hi2]; rfl
      rw [if_pos hpg, if_pos hpg]
      exact (read14_at hB hof d n p (inAt_f hi2)).mono fun e w' ⟨h1, h2⟩ => RdRes.same h h2 h1
theorem nextI_any (h : NdO w0 w ab A b O) (d n : Int) : Calls Try.prog 18 #[.pointer (some ⟨ab, 0, none⟩), .int .i64 d, .int .i64 n] w fun e w' => e = .returned (.int .i64 (A.nextI d n)) ∧ w' = w := by
  obtain ⟨bb, bc, db, pb, fa, fc, L, hB⟩ := h.at'
  unfold Nd.nextI
  by_cases hi : inAt A.S d n = true
  · rw [if_pos hi]
    obtain ⟨i, j, rfl, rfl, hd, hn⟩ := inAt_t hi
    exact next18 hB hd hn
  · rw [if_neg hi]
    exact next18_out hB d n (inAt_f (by simpa using hi))
theorem erasesI_any (h : NdO w0 w ab A b O) (d n : Int) : Calls Try.prog 49 #[.pointer (some ⟨ab, 0, none⟩), .int .i64 d, .int .i64 n] w fun e w' => e = .returned (.int .i64 (A.erasesI d n)) ∧ w' = w := by
  obtain ⟨bb, bc, db, pb, fa, fc, L, hB⟩ := h.at'
  unfold Nd.erasesI
  by_cases hi : inAt A.S d n = true
  · rw [if_pos hi]
    obtain ⟨i, j, rfl, rfl, hd, hn⟩ := inAt_t hi
    exact erases49 hB hd hn
  · rw [if_neg hi]
    exact erases49_out hB d n (inAt_f (by simpa using hi))
theorem markedI_any (h : NdO w0 w ab A b O) (d n : Int) : Calls Try.prog 51 #[.pointer (some ⟨ab, 0, none⟩), .int .i64 d, .int .i64 n] w fun e w' => e = .returned (.bool (A.markedI d n)) ∧ Keeps Nil w w' := by
  obtain ⟨bb, bc, db, pb, fa, fc, L, hB⟩ := h.at'
  unfold Nd.markedI
  by_cases hi : inAt A.S d n = true
  · rw [hi, Bool.true_and]
    obtain ⟨i, j, rfl, rfl, hd, hn⟩ := inAt_t hi
    exact marked51 hB h.good.ok.len hd hn
  · have hi2 : inAt A.S d n = false := by simpa using hi
    rw [hi2, Bool.false_and]
    exact marked51_out hB d n (inAt_f hi2)
theorem opsI_any (h : NdO w0 w ab A b O) : Calls Try.prog 19 #[.pointer (some ⟨ab, 0, none⟩)] w fun e w' => e = .returned (.int .i64 (A.ops : Nat)) ∧ w' = w := by
  obtain ⟨bb, bc, db, pb, fa, fc, L, hB⟩ := h.at'
  exact ops19 hB
theorem powerI_any (h : NdO w0 w ab A b O) : Calls Try.prog 21 #[.pointer (some ⟨ab, 0, none⟩)] w fun e w' => e = .returned (.bool (!A.off)) ∧ w' = w := by
  obtain ⟨bb, bc, db, pb, fa, fc, L, hB⟩ := h.at'
  exact power21 hB
theorem onI_any (h : NdO w0 w ab A b O) : Calls Try.prog 20 #[.pointer (some ⟨ab, 0, none⟩)] w fun e w' => e = .returned (.tuple #[]) ∧ NdO w0 w' ab { A with off := false } b O ∧ Keeps O w w' := by
  obtain ⟨bb, bc, db, pb, fa, fc, L, hB⟩ := h.at'
  refine (on20 hB).mono fun e w' ⟨h1, h2, h3⟩ => ?_
  have h4 : Keeps O w w' := h3.mono (fun k hk => by subst hk; exact hB.ownA)
  exact ⟨h1, ⟨⟨bb, bc, db, pb, fa, fc, L, h2⟩, h.good.on false, h.keep.trans' h4 (fun k hk => .inr (h.new k hk)), h.new⟩, h4⟩
/-! a new array -/
theorem FitsI.of {S : Sh} (h : S.Ok) (hm : S.dies * S.blocks * S.pages * S.bytes ≤ 4194304) : FitsI S.dies S.blocks S.pages S.bytes := by
  refine ⟨⟨?_, ?_⟩, ⟨?_, ?_⟩, ⟨?_, ?_⟩, ⟨?_, ?_⟩, ?_⟩
  · have := h.d1; omega
  · have := h.d2; omega
  · have := h.b1; omega
  · have := h.b2; omega
  · have := h.p1; omega
  · have := h.p2; omega
  · have := h.n1; omega
  · have := h.n2; omega
  · rw [← Int.natCast_mul, ← Int.natCast_mul, ← Int.natCast_mul]
    exact Int.ofNat_le.2 hm
theorem FitsI.ok {S : Sh} (h : FitsI S.dies S.blocks S.pages S.bytes) : S.Ok := by
  obtain ⟨h1, h2, h3, h4, _⟩ := h
  exact ⟨by omega, by omega, by omega, by omega, by omega, by omega, by omega, by omega⟩
structure FsOk (S : Sh) (F : List Ft) : Prop where
  len : F.length ≤ 2000
  one : ∀ f ∈ F, f.part ≤ 9223372036854775807 ∧ f.times ≤ 9223372036854775807 ∧ f.bits.length ≤ 20000000000000
theorem new_good {S : Sh} {F : List Ft} (hS : S.Ok) (hF : FsOk S F) (hm : F.all (·.may S) = true) : (Nd.new S F).Good 0 := by
  refine ⟨⟨hS, ?_, by show (F.map _).length ≤ 2000; rw [List.length_map]; exact hF.len, fun d n p l h => by cases h⟩, ⟨Nat.le_refl _, Nat.le_refl _, Nat.le_refl _, Nat.le_refl _, Nat.le_refl _, Nat.le_refl _, fun _ _ => Nat.le_refl _, fun _ _ => ⟨by show (-1 : Int) ≤ 0; decide, by show (0 : Int) ≤ _; omega⟩⟩⟩
  intro f hf
  obtain ⟨g, hg, rfl⟩ := List.mem_map.1 hf
  have hy := List.all_eq_true.1 hm g hg
  unfold Ft.may at hy
  rw [Bool.and_eq_true] at hy
  have hin := of_decide_eq_true hy.1
  obtain ⟨o1, o2, o3⟩ := hF.one g hg
  refine ⟨?_, o3, ⟨hin.p1, o1⟩, ?_⟩
  · intro k hk
    have h2 := hy.2
    rw [Bool.not_eq_true', List.any_eq_false] at h2
    have h3 := h2 k hk
    unfold outB at h3
    rw [Bool.or_eq_true, decide_eq_true_eq, decide_eq_true_eq] at h3
    show 0 ≤ k ∧ k < 8 * (S.bytes : Int)
    omega
  · show ((g.times.toNat : Nat) : Int) ≤ _
    have := hin.t2
    omega
theorem FtsAt.ok {fa : Option Addr} {LA : List Fx} {S : Sh} (h : FtsAt w fa LA) (hn : LA.length ≤ 2000) : FsOk S (LA.map (·.f)) := by
  refine ⟨by rw [List.length_map]; exact hn, ?_⟩
  intro f hf
  obtain ⟨x, hx, rfl⟩ := List.mem_map.1 hf
  have h1 := h.wf x hx
  have h2 := (h.bits x hx).2.2
  exact ⟨h1.1, h1.2, by omega⟩
/-- New, where it makes an array -/
theorem newI_ok {S : Sh} {fa : Option Addr} {fc : Nat} {LA : List Fx} (hk : Keeps Nil w0 w) (hf : FitsI S.dies S.blocks S.pages S.bytes) (hL : FtsAt w fa LA) (hn : LA.length ≤ 2000) (hm : (LA.map (·.f)).all (·.may S) = true) :
    Calls Try.prog 12 #[.agg #[.int .i64 (S.dies : Nat), .int .i64 (S.blocks : Nat), .int .i64 (S.pages : Nat), .int .i64 (S.bytes : Nat)], .slice fa LA.length fc] w
      fun e w' => ∃ ab O, e = .returned (.tuple #[.pointer (some ⟨ab, 0, none⟩), .int .i64 0]) ∧ NdO w0 w' ab (Nd.new S (LA.map (·.f))) 0 O ∧ Keeps Nil w w' ∧ ∀ k, O k → w.heap.size ≤ k := by
  refine (new12 (FitsI.ok hf) hf hL hn).mono fun e w' h => ?_
  obtain ⟨ab, O, h1, h2, h3, h4⟩ := h.1 hm
  exact ⟨ab, O, h1, ⟨h2, new_good (FitsI.ok hf) (hL.ok hn) hm, hk.trans h3, fun k hk2 => Nat.le_trans hk.size (h4 k hk2)⟩, h3, h4⟩
theorem newI_bad {S : Sh} {fa : Option Addr} {fc : Nat} {LA : List Fx} (hf : FitsI S.dies S.blocks S.pages S.bytes) (hL : FtsAt w fa LA) (hn : LA.length ≤ 2000) (hm : (LA.map (·.f)).all (·.may S) = false) :
    Calls Try.prog 12 #[.agg #[.int .i64 (S.dies : Nat), .int .i64 (S.blocks : Nat), .int .i64 (S.pages : Nat), .int .i64 (S.bytes : Nat)], .slice fa LA.length fc] w
      fun e w' => e = .returned (.tuple #[.pointer none, .int .i64 1]) ∧ Keeps Nil w w' :=
  (new12 (FitsI.ok hf) hf hL hn).mono fun _ _ h => h.2 hm
end Go.Proofs.Ytglpacdenfoicaa
