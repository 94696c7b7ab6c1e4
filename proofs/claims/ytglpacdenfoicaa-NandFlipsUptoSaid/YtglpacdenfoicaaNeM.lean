/- nand: an array one of whose dies dies -/
import Derived.Test.YtglpacdenfoicaaNeJ
namespace Go.Proofs.Ytglpacdenfoicaa
open Go.RowKit

/-! operations that no cut and no bad block meets -/
theorem doOp_none {A A1 : Nd} {d : Nat} {whole : Nd → Int × Nd} {part : Nd → Int → Nd} (hc : A.cut A.ops = none) (h0 : (whole A1).1 = 0) : A.doOp A1 d whole part = if A.dead d = true then (41, A1) else whole A1 := by
  unfold Nd.doOp
  rw [hc]
  show (if A.dead d = true then (41, A1) else if (whole A1).1 = 43 then _ else whole A1) = _
  rw [h0]
  rfl
theorem erase_sound {A : Nd} {d n : Nat} (hc : A.cut A.ops = none) (hb : A.badP A.ops d n 3 = false) : A.erase d n = if A.dead d = true then (41, A.tickE) else (0, (A.tickE.wear d n).eraseOk d n) := by
  have hb' : A.tickE.badP A.ops d n 3 = false := hb
  have he : Nd.eraseW A.ops d n A.tickE = (0, (A.tickE.wear d n).eraseOk d n) := by unfold Nd.eraseW; rw [hb']; rfl
  have := doOp_none (A1 := A.tickE) (d := d) (whole := Nd.eraseW A.ops d n) (part := Nd.eraseP A.ops d n) hc (by rw [he])
  rw [he] at this
  exact this
theorem prog_sound {A : Nd} {d n p : Nat} {l : List Int} (hc : A.cut A.ops = none) (hb : A.badP A.ops d n 2 = false) : A.prog d n p l = if A.dead d = true then (41, A.tickP) else (0, A.tickP.progOk d n p l) := by
  have hb' : A.tickP.badP A.ops d n 2 = false := hb
  have he : Nd.progW A.ops d n p l A.tickP = (0, A.tickP.progOk d n p l) := by unfold Nd.progW; rw [hb']; rfl
  have := doOp_none (A1 := A.tickP) (d := d) (whole := Nd.progW A.ops d n p l) (part := Nd.progP A.ops d n p l) hc (by rw [he])
  rw [he] at this
  exact this
theorem read_sound {A : Nd} {d n p : Nat} (hc : A.cut A.ops = none) : A.read d n p = if A.dead d = true then (41, A.tickR) else Nd.readW A.ops d n p A.tickR :=
  doOp_none (A1 := A.tickR) (d := d) (whole := Nd.readW A.ops d n p) (part := fun A _ => A) hc rfl
/-! a die that dies -/
def dF (tm die : Nat) : Ft := ⟨4, tm, die, 0, 0, 0, 0, [], 0⟩
variable {A : Nd} {tm die : Nat}
theorem dF_cut (hF : A.F = [dF tm die]) (op : Int) : A.cut op = none := by unfold Nd.cut; rw [hF]; rfl
theorem dF_struck (hF : A.F = [dF tm die]) {k : Int} (hk : (4 == k) = false) (op d n : Int) : A.struck op k d n = false := by
  unfold Nd.struck
  rw [hF]
  simp [Ft.hits, dF, hk]
theorem dF_bad (hF : A.F = [dF tm die]) {k : Int} (hk : (4 == k) = false) (op : Int) (d n : Nat) : A.badP op d n k = false := by
  unfold Nd.badP
  rw [dF_struck hF hk, dF_struck hF (by decide)]; rfl
theorem dF_dead (hF : A.F = [dF tm die]) (d : Nat) : A.dead d = decide (tm ≤ A.ops ∧ d = die) := by
  unfold Nd.dead Nd.struck
  rw [hF]
  simp only [Ft.hits, dF, List.any_cons, List.any_nil, Bool.or_false, beq_self_eq_true, Bool.true_or, Bool.and_true, Bool.true_and]
  rw [show ((4 : Int) == 6) = false from rfl, Bool.or_false]
  rw [Bool.decide_and]
  congr 1
  · simp
  · by_cases h : d = die
    · subst h; simp
    · simp [h]; omega
theorem dF_now (op d n p : Int) : (dF tm die).tick op d n p = dF tm die := by
  unfold Ft.tick
  rw [if_neg (by simp [Ft.now, dF])]
def dcode (die tm d ops : Nat) : Int := if tm ≤ ops ∧ d = die then 41 else 0
structure DieS (w0 wr : World) (ab : Nat) (A : Nd) (O : Nat → Prop) (die tm k : Nat) : Prop where
  o : NdO w0 wr ab A k O
  S : A.S = ⟨3, 2, 3, 2⟩
  F : A.F = [dF tm die]
  off : A.off = false
def DieR (w0 wr : World) (ab die tm ops k : Nat) : Prop := ∃ A O, DieS w0 wr ab A O die tm k ∧ A.ops = ops
variable {w0 wr : World} {ab k : Nat} {O : Nat → Prop}
theorem DieS.inA (h : DieS w0 wr ab A O die tm k) {d b : Nat} (hd : d < 3) (hb : b < 2) : inAt A.S d b = true := by
  rw [h.S]; unfold inAt; simp; omega
theorem DieS.next (h : DieS w0 wr ab A O die tm k) {d b : Nat} (hd : d < 3) (hb : b < 2) : Calls Try.prog 18 #[.pointer (some ⟨ab, 0, none⟩), .int .i64 (d : Nat), .int .i64 (b : Nat)] wr fun e w' => e = .returned (.int .i64 (A.B d b).next) ∧ w' = wr := by
  have he := nextI_any h.o d b
  unfold Nd.nextI at he
  rw [if_pos (h.inA hd hb)] at he
  exact he
theorem DieS.le (h : DieS w0 wr ab A O die tm k) (d b : Nat) : -1 ≤ (A.B d b).next ∧ (A.B d b).next ≤ 3 ∧ A.ops ≤ k := by
  have h1 := h.o.good.lt.next d b
  rw [h.S] at h1
  exact ⟨h1.1, h1.2, h.o.good.lt.ops⟩
theorem DieS.opsC (h : DieS w0 wr ab A O die tm k) : Calls Try.prog 19 #[.pointer (some ⟨ab, 0, none⟩)] wr fun e w' => e = .returned (.int .i64 (A.ops : Nat)) ∧ w' = wr := opsI_any h.o
theorem DieS.erase (h : DieS w0 wr ab A O die tm k) (hk : k ≤ 1000) {d b : Nat} (hd : d < 3) (hb : b < 2) : Calls Try.prog 16 #[.pointer (some ⟨ab, 0, none⟩), .int .i64 (d : Nat), .int .i64 (b : Nat)] wr
    fun e w' => e = .returned (.int .i64 (dcode die tm d A.ops)) ∧ DieR w0 w' ab die tm (A.ops + 1) (k + 1) := by
  have hE : A.eraseI d b = A.erase d b := by
    unfold Nd.eraseI
    rw [if_neg (by rw [h.off]; simp), if_neg (by rw [h.inA hd hb]; simp)]
    rfl
  have he := eraseI_any h.o (by omega) d b
  rw [hE, erase_sound (dF_cut h.F _) (dF_bad h.F (by decide) _ _ _), dF_dead h.F] at he
  refine he.mono fun e w' hr => ?_
  obtain ⟨h2, O', h3, _, _⟩ := hr
  unfold dcode
  by_cases hc : tm ≤ A.ops ∧ d = die
  · rw [if_pos (by simpa using hc)] at h2 h3
    rw [if_pos hc]
    exact ⟨h2, _, O', ⟨h3, h.S, h.F, h.off⟩, rfl⟩
  · rw [if_neg (by simpa using hc)] at h2 h3
    rw [if_neg hc]
    exact ⟨h2, _, O', ⟨h3, h.S, h.F, h.off⟩, rfl⟩
theorem DieS.prog (h : DieS w0 wr ab A O die tm k) (hk : k ≤ 1000) {d b q : Nat} (hd : d < 3) (hb : b < 2) (hq : q < 3) (hn : (A.B d b).next = (q : Int)) {fr : Nat × Nat} : Calls Try.prog 13 #[.pointer (some ⟨ab, 0, none⟩), .int .i64 (d : Nat), .int .i64 (b : Nat), .int .i64 (q : Nat), .slice (some ⟨wr.heap.size, 0, none⟩) 2 2] (wr.alloc (.cells #[.int .u8 1, .int .u8 2] 5 fr))
    fun e w' => e = .returned (.int .i64 (dcode die tm d A.ops)) ∧ DieR w0 w' ab die tm (A.ops + 1) (k + 1) := by
  have hE : A.programI d b q [1, 2] = A.prog d b q [1, 2] := by
    unfold Nd.programI
    rw [if_neg (by rw [h.off]; simp), if_neg (by unfold inPg; rw [h.inA hd hb, h.S]; simp; omega), if_neg (by simpa using hn)]
    rfl
  rw [prog_sound (dF_cut h.F _) (dF_bad h.F (by decide) _ _ _), dF_dead h.F] at hE
  unfold dcode
  by_cases hc : tm ≤ A.ops ∧ d = die
  · rw [if_pos (by simpa using hc)] at hE
    rw [if_pos hc]
    refine (prog_lit (m := 2) (c := 2) h.o (by omega) d b q [1, 2] (fr := fr) hE rfl (by simp)).mono fun e w' hr => ?_
    obtain ⟨h2, O', h3, _, _⟩ := hr
    exact ⟨h2, _, O', ⟨h3, h.S, h.F, h.off⟩, rfl⟩
  · rw [if_neg (by simpa using hc)] at hE
    rw [if_neg hc]
    refine (prog_lit (m := 2) (c := 2) h.o (by omega) d b q [1, 2] (fr := fr) hE rfl (by simp)).mono fun e w' hr => ?_
    obtain ⟨h2, O', h3, _, _⟩ := hr
    exact ⟨h2, _, O', ⟨h3, h.S, h.F, h.off⟩, rfl⟩
theorem DieS.read (h : DieS w0 wr ab A O die tm k) (hk : k ≤ 1000) {d b : Nat} (hd : d < 3) (hb : b < 2) : Calls Try.prog 14 #[.pointer (some ⟨ab, 0, none⟩), .int .i64 (d : Nat), .int .i64 (b : Nat), .int .i64 0] wr
    fun e w' => ∃ v, e = .returned (.tuple #[v, .int .i64 (dcode die tm d A.ops)]) ∧ DieR w0 w' ab die tm (A.ops + 1) (k + 1) := by
  have hE : A.readI d b 0 = A.read d b 0 := by
    unfold Nd.readI
    rw [if_neg (by rw [h.off]; simp), if_neg (by unfold inPg; rw [h.inA hd hb, h.S]; simp)]
    rfl
  have he := readI_any h.o (by omega) d b 0
  rw [hE, read_sound (dF_cut h.F _), dF_dead h.F] at he
  refine he.mono fun e w' hr => ?_
  obtain ⟨v, h2, O', h3, _, _⟩ := hr
  refine ⟨v, ?_⟩
  unfold dcode
  by_cases hc : tm ≤ A.ops ∧ d = die
  · rw [if_pos (by simpa using hc)] at h2 h3
    rw [if_pos hc]
    exact ⟨h2, _, O', ⟨h3, h.S, h.F, h.off⟩, rfl⟩
  · rw [if_neg (by simpa using hc)] at h2 h3
    rw [if_neg hc]
    refine ⟨h2, _, O', ⟨h3, h.S, ?_, h.off⟩, rfl⟩
    show A.F.map _ = _
    rw [h.F, List.map_cons, List.map_nil, dF_now]
theorem DieS.new (hk : Keeps Nil w0 wr) (hd : die < 3) {fr : Nat × Nat} : Calls Try.prog 12 #[.agg #[.int .i64 3, .int .i64 2, .int .i64 3, .int .i64 2], .slice (some ⟨wr.heap.size, 0, none⟩) 1 1] (wr.alloc (.cells #[.int .i64 4, .int .i64 (tm : Nat), .int .i64 (die : Nat), .int .i64 0, .int .i64 0, .int .i64 0, .int .i64 0, .slice none 0 0] 33 fr))
    fun e w' => ∃ ab, e = .returned (.tuple #[.pointer (some ⟨ab, 0, none⟩), .int .i64 0]) ∧ DieR w0 w' ab die tm 0 0 := by
  have hf : FitsI (⟨3, 2, 3, 2⟩ : Sh).dies (⟨3, 2, 3, 2⟩ : Sh).blocks (⟨3, 2, 3, 2⟩ : Sh).pages (⟨3, 2, 3, 2⟩ : Sh).bytes := ⟨by decide, by decide, by decide, by decide, by decide⟩
  refine (newI_ok (S := ⟨3, 2, 3, 2⟩) (fc := 1) (hk.alloc _) hf (fts_lit wr (f := dF tm die) rfl ⟨by simp [dF], by simp [dF]⟩ (fr := fr)) (by simp) ?_).mono fun e w' h => ?_
  · have hin : (dF tm die).In ⟨3, 2, 3, 2⟩ := ⟨by simp [dF], by simp [dF], by simp [dF], by simp [dF], by simp [dF], by simp [dF], by simp [dF]; omega, by simp [dF], by simp [dF], by simp [dF], by simp [dF]⟩
    simp only [List.map_cons, List.map_nil, List.all_cons, List.all_nil, Bool.and_true]
    unfold Ft.may
    rw [decide_eq_true hin]
    rfl
  · obtain ⟨ab, O, h1, h2, _, _⟩ := h
    exact ⟨ab, h1, _, O, ⟨h2, rfl, rfl, rfl⟩, rfl⟩
end Go.Proofs.Ytglpacdenfoicaa
