/- NandFlips: the array with one fault of turned bits -/
import Derived.Test.YtglpacdenfoicaaNeM
import Derived.Test.YtglpacdenfoicaaNeQ
import Derived.Test.YtglpacdenfoicaaNeS
namespace Go.Proofs.Ytglpacdenfoicaa
open Go.RowKit

/-- a fault that still comes so often -/
def fF (tm : Nat) (L : List Int) (left : Nat) : Ft := ⟨1, 0, 0, 0, 0, tm, 0, L, left⟩
variable {A A' : Nd} {tm left n k : Nat} {L l : List Int}
theorem fF_cut (hF : A.F = [fF tm L left]) (op : Int) : A.cut op = none := by unfold Nd.cut; rw [hF]; rfl
theorem fF_struck (hF : A.F = [fF tm L left]) {q : Int} (hk : (1 == q) = false) (op d n : Int) : A.struck op q d n = false := by
  unfold Nd.struck
  rw [hF]
  simp [Ft.hits, fF, hk]
theorem fF_bad (hF : A.F = [fF tm L left]) {q : Int} (hk : (1 == q) = false) (op : Int) (d n : Nat) : A.badP op d n q = false := by
  unfold Nd.badP
  rw [fF_struck hF hk, fF_struck hF (by decide)]; rfl
theorem fF_dead (hF : A.F = [fF tm L left]) (d : Nat) : A.dead d = false := fF_struck hF (by decide) _ _ _
theorem fF_now (op : Nat) : (fF tm L left).now op 0 0 0 = decide (0 < left) := by
  unfold Ft.now fF
  cases left with
  | zero => simp
  | succ m =>
    have : decide ((op : Int) < 0) = false := by rw [decide_eq_false_iff_not]; omega
    simp
theorem fF_tick (op : Nat) : (fF tm L left).tick op 0 0 0 = fF tm L (left - 1) := by
  unfold Ft.tick
  rw [fF_now]
  by_cases h : 0 < left
  · rw [if_pos (by simpa using h)]; rfl
  · rw [if_neg (by simpa using h)]
    have : left = 0 := by omega
    rw [this]
theorem flipB_fold : ∀ (L : List Int) (st : List Int × Int), 0 ≤ st.2 → st.2 + L.length ≤ 1000000 → L.foldl flipB st = (L.foldl turnB st.1, st.2 + L.length)
  | [], st, _, _ => by simp
  | x :: r, st, h1, h2 => by
    rw [List.length_cons] at h2
    have hw : wrap64 (st.2 + 1) = st.2 + 1 := by
      unfold wrap64
      omega
    simp only [List.foldl_cons]
    have hs : flipB st x = (turnB st.1 x, st.2 + 1) := by unfold flipB; rw [hw]
    rw [hs, flipB_fold r _ (by simp only; omega) (by simp only; omega)]
    simp only [List.length_cons]
    congr 1
    omega
theorem turnB_fold_len : ∀ (L : List Int) (l : List Int), (L.foldl turnB l).length = l.length
  | [], l => rfl
  | x :: r, l => by rw [List.foldl_cons, turnB_fold_len r, turnB_len]
/-- behind so many reads -/
def FlipA (w0 wr : World) (ab n tm : Nat) (L l : List Int) (i : Nat) (A : Nd) (O : Nat → Prop) : Prop :=
  NdO w0 wr ab A (i + 1) O ∧ A.S = ⟨1, 1, 1, n⟩ ∧ A.F = [fF tm L (tm - i)] ∧ A.off = false ∧ (A.B 0 0).pg 0 = some l ∧ A.flips = ((min i tm * L.length : Nat) : Int)
variable {w0 w wr w' : World} {ab : Nat} {O : Nat → Prop}
theorem FlipA.new {la : Option Addr} {lc : Nat} (hk : Keeps Nil w0 wr) (hn : 1 ≤ n ∧ n ≤ 100) (ht : tm ≤ 4) (hL : NumRow .i64 wr 3 la lc L) (hl : L.length ≤ 20) (hb : ∀ k ∈ L, 0 ≤ k ∧ k < 8 * (n : Int)) {fr : Nat × Nat} {m : Nat} (hm : L.length = m) :
    Calls Try.prog 12 #[.agg #[.int .i64 1, .int .i64 1, .int .i64 1, .int .i64 (n : Nat)], .slice (some ⟨wr.heap.size, 0, none⟩) 1 1] (wr.alloc (.cells #[.int .i64 1, .int .i64 0, .int .i64 0, .int .i64 0, .int .i64 0, .int .i64 (tm : Nat), .int .i64 0, .slice la m lc] 33 fr))
    fun e w' => ∃ ab O, e = .returned (.tuple #[.pointer (some ⟨ab, 0, none⟩), .int .i64 0]) ∧ NdO w0 w' ab (Nd.new ⟨1, 1, 1, n⟩ [fF tm L 0]) 0 O ∧ Keeps Nil wr w' ∧ ∀ k, O k → wr.heap.size ≤ k := by
  subst hm
  have hf : FitsI (⟨1, 1, 1, n⟩ : Sh).dies (⟨1, 1, 1, n⟩ : Sh).blocks (⟨1, 1, 1, n⟩ : Sh).pages (⟨1, 1, 1, n⟩ : Sh).bytes := FitsI.of ⟨by simp, by simp, by simp, by simp, by simp, by simp, hn.1, by simp only; omega⟩ (by simp only; omega)
  have ha := (Keeps.refl Nil wr).alloc (.cells #[.int .i64 1, .int .i64 0, .int .i64 0, .int .i64 0, .int .i64 0, .int .i64 (tm : Nat), .int .i64 0, .slice la L.length lc] 33 fr)
  have hFt : FtsAt (wr.alloc (.cells #[.int .i64 1, .int .i64 0, .int .i64 0, .int .i64 0, .int .i64 0, .int .i64 (tm : Nat), .int .i64 0, .slice la L.length lc] 33 fr)) (some ⟨wr.heap.size, 0, none⟩) [⟨fF tm L 0, la, lc⟩] := by
    refine ⟨?_, ?_, ?_⟩
    · intro k x hx
      cases k with
      | succ k => simp at hx
      | zero =>
        simp only [List.getElem?_cons_zero, Option.some.injEq] at hx
        subst hx
        refine ⟨_, 0, rfl, ?_⟩
        intro j v hj
        rw [cell_of_heap (heap_alloc_new wr _)]
        simp only [Nat.zero_mul, Nat.zero_add, List.getElem?_toArray]
        rw [← hj]; rfl
    · intro x hx
      rw [List.mem_singleton] at hx
      subst hx
      refine ⟨(hL.keeps ha (fun _ _ h => h)).nums, fun e => ?_, by show L.length * 8 ≤ _; omega⟩
      rcases RowAt.form hL with ⟨_, h1, h2⟩ | ⟨g, cur, h1, _⟩
      · exact ⟨h2, h1⟩
      · simp only at e; rw [h1] at e; cases e
    · intro x hx
      rw [List.mem_singleton] at hx
      subst hx
      exact ⟨by show (0 : Int) ≤ _; decide, by show ((tm : Nat) : Int) ≤ _; omega⟩
  refine (newI_ok (S := ⟨1, 1, 1, n⟩) (fc := 1) (hk.alloc _) hf hFt (by simp) ?_).mono fun e w' h => ?_
  · have hin : (fF tm L 0).In ⟨1, 1, 1, n⟩ := ⟨by simp [fF], by simp [fF], by simp [fF], by simp [fF], by simp [fF], by simp [fF], by simp [fF], by simp [fF], by simp [fF], by simp [fF], by simp [fF]⟩
    simp only [List.map_cons, List.map_nil, List.all_cons, List.all_nil, Bool.and_true]
    unfold Ft.may
    rw [decide_eq_true hin, Bool.true_and, Bool.not_eq_true', List.any_eq_false]
    intro k hk
    have := hb k hk
    unfold outB
    simp
    omega
  · obtain ⟨ab, O, h1, h2, h3, h4⟩ := h
    exact ⟨ab, O, h1, h2, ha.trans h3, fun k hk => Nat.le_trans ha.size (h4 k hk)⟩
theorem FlipA.prog {xa : Option Addr} {xc : Nat} (h : NdO w0 wr ab (Nd.new ⟨1, 1, 1, n⟩ [fF tm L 0]) 0 O) (hx : NumsAt .u8 wr xa l) (hxl : ∀ g, blk xa = some g → g < w0.heap.size) (hl : l.length = n) (hc : l.length ≤ xc) :
    Calls Try.prog 13 #[.pointer (some ⟨ab, 0, none⟩), .int .i64 0, .int .i64 0, .int .i64 0, .slice xa l.length xc] wr fun e w' => e = .returned (.int .i64 0) ∧ ∃ A O', FlipA w0 w' ab n tm L l 0 A O' ∧ Keeps O wr w' ∧ ∀ k, O' k → O k ∨ wr.heap.size ≤ k := by
  have hF : (Nd.new ⟨1, 1, 1, n⟩ [fF tm L 0]).F = [fF tm L tm] := rfl
  have hin : inPg (⟨1, 1, 1, n⟩ : Sh) 0 0 0 = true := rfl
  have hE : (Nd.new ⟨1, 1, 1, n⟩ [fF tm L 0]).programI 0 0 0 l = (Nd.new ⟨1, 1, 1, n⟩ [fF tm L 0]).prog 0 0 0 l := by
    unfold Nd.programI
    rw [if_neg (by simp [Nd.new]), if_neg (by show ¬ (inPg (⟨1, 1, 1, n⟩ : Sh) 0 0 0 && l.length == n) = false; rw [hin, hl]; simp), if_neg (by show ¬ ¬ (0 : Int) = 0; simp)]
    rfl
  have he := programI_any h (by omega) (Keeps.refl Nil wr) 0 0 0 hx (fun g hg => .inl (hxl g hg)) hc
  rw [hE, prog_sound (fF_cut hF _) (fF_bad hF (by decide) _ _ _), fF_dead hF, if_neg (by simp)] at he
  refine he.mono fun e w' hr => ?_
  obtain ⟨h2, O', h3, h4, h5⟩ := hr
  refine ⟨h2, _, O', ⟨h3, rfl, hF, rfl, ?_, ?_⟩, h4, h5⟩
  · unfold Nd.progOk; rw [Nd.setB_same]; rfl
  · show (0 : Int) = _
    rw [Nat.zero_min, Nat.zero_mul]; rfl
/-- a read -/
theorem FlipA.read {i : Nat} (h : FlipA w0 wr ab n tm L l i A O) (hi : i ≤ 1000) (ht : tm ≤ 4) (hL : L.length ≤ 20) (hl : l.length = n) :
    Calls Try.prog 14 #[.pointer (some ⟨ab, 0, none⟩), .int .i64 0, .int .i64 0, .int .i64 0] wr fun e w' => ∃ g c, e = .returned (.tuple #[.slice (some ⟨g, 0, none⟩) n c, .int .i64 0]) ∧
      NumRow .u8 w' 5 (some ⟨g, 0, none⟩) c (if i < tm then L.foldl turnB l else l) ∧ ∃ A' O', FlipA w0 w' ab n tm L l (i + 1) A' O' ∧ Keeps O wr w' ∧ ∀ k, O' k → O k ∨ wr.heap.size ≤ k := by
  obtain ⟨ho, hS, hF, hoff, hpg, hfl⟩ := h
  have hin : inPg A.S 0 0 0 = true := by rw [hS]; rfl
  have hE : A.readI 0 0 0 = A.read 0 0 0 := by
    unfold Nd.readI
    rw [if_neg (by rw [hoff]; simp), if_neg (by rw [hin]; simp)]
    rfl
  have hmin : min i tm ≤ 4 := by omega
  have hprod : min i tm * L.length ≤ 4 * 20 := Nat.mul_le_mul hmin hL
  have hst : A.readSt A.ops 0 0 0 = if i < tm then (L.foldl turnB l, A.flips + L.length) else (l, A.flips) := by
    unfold Nd.readSt
    rw [hF]
    simp only [List.foldl_cons, List.foldl_nil]
    unfold flipF
    rw [show pgBytes A.S.bytes ((A.B 0 0).pg 0) = l by rw [hpg]; rfl]
    by_cases h : i < tm
    · rw [if_pos (by rw [show (((0 : Nat) : Int)) = 0 from rfl, fF_now]; simpa using (by omega : 0 < tm - i)), if_pos h]
      show L.foldl flipB (l, A.flips) = _
      rw [flipB_fold L (l, A.flips) (by rw [hfl]; exact Int.natCast_nonneg _) (by simp only; rw [hfl]; omega)]
    · rw [if_neg (by rw [show (((0 : Nat) : Int)) = 0 from rfl, fF_now]; simp; omega), if_neg h]
  have hout : A.readOutI 0 0 0 = some (if i < tm then L.foldl turnB l else l) := by
    unfold Nd.readOutI
    rw [if_neg (by rw [hoff]; simp), if_neg (by rw [hin]; simp)]
    show A.readOut 0 0 0 = _
    unfold Nd.readOut
    rw [fF_cut hF, fF_dead hF]
    show some (A.readSt A.ops 0 0 0).1 = _
    rw [hst]
    split <;> rfl
  have hlen : (if i < tm then L.foldl turnB l else l).length = n := by
    split
    · rw [turnB_fold_len]; exact hl
    · exact hl
  have he := readI_any ho (by omega) 0 0 0
  rw [hE, hout, read_sound (fF_cut hF _), fF_dead hF] at he
  refine he.mono fun e w' hr => ?_
  obtain ⟨v, h2, O', h3, h4, h5, h6⟩ := hr
  obtain ⟨g, c, rfl, h7, _, _⟩ := h6
  rw [hlen] at h2
  refine ⟨g, c, h2, h7, _, O', ⟨h3, hS, ?_, hoff, hpg, ?_⟩, h4, h5⟩
  · show A.F.map _ = _
    rw [hF, List.map_cons, List.map_nil]
    have := fF_tick (tm := tm) (L := L) (left := tm - i) A.ops
    rw [show tm - (i + 1) = tm - i - 1 by omega, ← this]
    rfl
  · show (A.tickR.readSt A.ops 0 0 0).2 = _
    rw [show A.tickR.readSt A.ops 0 0 0 = A.readSt A.ops 0 0 0 from rfl, hst]
    by_cases h : i < tm
    · rw [if_pos h]
      show A.flips + (L.length : Int) = _
      rw [hfl, show min i tm = i by omega, show min (i + 1) tm = i + 1 by omega, Nat.add_mul, Nat.one_mul]
      omega
    · rw [if_neg h]
      show A.flips = _
      rw [hfl, show min i tm = tm by omega, show min (i + 1) tm = tm by omega]
end Go.Proofs.Ytglpacdenfoicaa
