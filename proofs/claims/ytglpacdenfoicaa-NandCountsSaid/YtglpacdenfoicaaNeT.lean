/- NandCounts: the array beside what is wanted -/
import Derived.Test.YtglpacdenfoicaaNeR
import Derived.Test.YtglpacdenfoicaaNeQ
import Derived.Test.YtglpacdenfoicaaNeJ
namespace Go.Proofs.Ytglpacdenfoicaa
open Go.RowKit

def cntCells (r p e f c : Nat) : Array Value := #[.int .i64 (r : Nat), .int .i64 (p : Nat), .int .i64 (e : Nat), .int .i64 0, .int .i64 (f : Nat), .int .i64 (c : Nat)]
/-- what is wanted lies at wb; it is that of A -/
structure CntS (w0 wr : World) (ab wb : Nat) (A : Nd) (O : Nat → Prop) (r p e f c k : Nat) : Prop where
  o : NdO w0 wr ab A k O
  S : A.S = ⟨2, 2, 3, 2⟩
  sum : A.ops = A.reads + A.programs + A.erases
  want : wr.heap[wb]? = some (.cells (cntCells r p e f c) 40 (0, 0))
  far : ¬ O wb
  new : w0.heap.size ≤ wb
/-- .. just so -/
structure CntE (A : Nd) (r p e f c : Nat) : Prop where
  r : A.reads = r
  p : A.programs = p
  e : A.erases = e
  f : A.fails = f
  c : A.cuts = c
def CntR (w0 wr : World) (ab wb k : Nat) : Prop := ∃ A O r p e f c, CntS w0 wr ab wb A O r p e f c k ∧ CntE A r p e f c
variable {w0 wr w' : World} {ab wb k : Nat} {A A' : Nd} {O O' : Nat → Prop} {r p e f c : Nat}
theorem CntS.le (h : CntS w0 wr ab wb A O r p e f c k) (h2 : CntE A r p e f c) : r ≤ k ∧ p ≤ k ∧ e ≤ k ∧ f ≤ k ∧ c ≤ k := by
  obtain ⟨rfl, rfl, rfl, rfl, rfl⟩ := h2
  have := h.o.good.lt
  exact ⟨this.reads, this.programs, this.erases, this.fails, this.cuts⟩
theorem CntS.keep (h : CntS w0 wr ab wb A O r p e f c k) : Keeps Nil w0 wr := h.o.keep
theorem CntS.nil (h : CntS w0 wr ab wb A O r p e f c k) (hk : Keeps Nil wr w') : CntS w0 w' ab wb A O r p e f c k := ⟨h.o.nil hk, h.S, h.sum, hk.heap h.want (fun h => h), h.far, h.new⟩
theorem CntS.set (h : CntS w0 wr ab wb A O r p e f c k) {r' p' e' f' c' : Nat} (hk : Keeps (· = wb) wr w') (hw : w'.heap[wb]? = some (.cells (cntCells r' p' e' f' c') 40 (0, 0))) : CntS w0 w' ab wb A O r' p' e' f' c' k :=
  ⟨h.o.far hk (fun j hj e => h.far (by rw [← e]; exact hj)) (fun j hj => by rw [hj]; exact h.new), h.S, h.sum, hw, h.far, h.new⟩
theorem CntS.res (h : CntS w0 wr ab wb A O r p e f c k) (h1 : NdO w0 w' ab A' (k + 1) O') (h2 : Keeps O wr w') (h3 : ∀ j, O' j → O j ∨ wr.heap.size ≤ j) (h4 : A'.S = A.S) (h5 : A'.ops = A'.reads + A'.programs + A'.erases) : CntS w0 w' ab wb A' O' r p e f c (k + 1) :=
  ⟨h1, by rw [h4]; exact h.S, h5, h2.heap h.want h.far, fun hO => by
    rcases h3 _ hO with q | q
    · exact h.far q
    · have := lt_of_heap h.want; omega, h.new⟩
theorem CntS.inA (h : CntS w0 wr ab wb A O r p e f c k) {d b : Nat} (hd : d < 2) (hb : b < 2) : inAt A.S d b = true := by
  rw [h.S]; unfold inAt; simp; omega
theorem CntS.next (h : CntS w0 wr ab wb A O r p e f c k) {d b : Nat} (hd : d < 2) (hb : b < 2) : Calls Try.prog 18 #[.pointer (some ⟨ab, 0, none⟩), .int .i64 (d : Nat), .int .i64 (b : Nat)] wr fun e w' => e = .returned (.int .i64 (A.B d b).next) ∧ w' = wr := by
  have he := nextI_any h.o d b
  unfold Nd.nextI at he
  rw [if_pos (h.inA hd hb)] at he
  exact he
theorem CntS.nextLe (h : CntS w0 wr ab wb A O r p e f c k) (d b : Nat) : -1 ≤ (A.B d b).next ∧ (A.B d b).next ≤ 3 := by
  have h1 := h.o.good.lt.next d b
  rw [h.S] at h1
  exact h1
theorem Outc.sum {A A' : Nd} {code : Int} {dr dp de : Nat} (h : Outc A A' code dr dp de) (h1 : dr + dp + de = 1) (hs : A.ops = A.reads + A.programs + A.erases) : A'.ops = A'.reads + A'.programs + A'.erases := by
  rw [h.ops, h.reads, h.programs, h.erases, hs]; omega
/-- what an operation leaves: the counts as they were before it -/
def CntO (w0 : World) (ab wb k : Nat) (r p e f c : Nat) (A : Nd) (code : Int) (dr dp de : Nat) (w' : World) : Prop := ∃ A' O', CntS w0 w' ab wb A' O' r p e f c (k + 1) ∧ Outc A A' code dr dp de
theorem CntS.eraseOn (h : CntS w0 wr ab wb A O r p e f c k) (hk : k ≤ 1000) (ho : A.off = false) {d b : Nat} (hd : d < 2) (hb : b < 2) : Calls Try.prog 16 #[.pointer (some ⟨ab, 0, none⟩), .int .i64 (d : Nat), .int .i64 (b : Nat)] wr
    fun ev w' => ∃ code, ev = .returned (.int .i64 code) ∧ CntO w0 ab wb k r p e f c A code 0 0 1 w' := by
  have hE : A.eraseI d b = A.erase d b := by
    unfold Nd.eraseI
    rw [if_neg (by rw [ho]; simp), if_neg (by rw [h.inA hd hb]; simp)]
    rfl
  have he := eraseI_any h.o (by omega) d b
  rw [hE] at he
  refine he.mono fun ev w' hr => ?_
  obtain ⟨h2, O', h3, h4, h5⟩ := hr
  exact ⟨_, h2, _, O', h.res h3 h4 h5 (erase_S _ _ _) ((erase_outc A d b).sum rfl h.sum), erase_outc A d b⟩
theorem CntS.progOn (h : CntS w0 wr ab wb A O r p e f c k) (hk : k ≤ 1000) (ho : A.off = false) {d b q : Nat} (hd : d < 2) (hb : b < 2) (hq : q < 3) (hn : (A.B d b).next = (q : Int)) {fr : Nat × Nat} : Calls Try.prog 13 #[.pointer (some ⟨ab, 0, none⟩), .int .i64 (d : Nat), .int .i64 (b : Nat), .int .i64 (q : Nat), .slice (some ⟨wr.heap.size, 0, none⟩) 2 2] (wr.alloc (.cells #[.int .u8 1, .int .u8 2] 5 fr))
    fun ev w' => ∃ code, ev = .returned (.int .i64 code) ∧ CntO w0 ab wb k r p e f c A code 0 1 0 w' := by
  have hE : A.programI d b q [1, 2] = A.prog d b q [1, 2] := by
    unfold Nd.programI
    rw [if_neg (by rw [ho]; simp), if_neg (by unfold inPg; rw [h.inA hd hb, h.S]; simp; omega), if_neg (by simpa using hn)]
    rfl
  have h0 := h.nil ((Keeps.refl Nil wr).alloc (.cells #[.int .u8 1, .int .u8 2] 5 fr))
  refine (prog_lit (m := 2) (c := 2) h.o (by omega) d b q [1, 2] (fr := fr) hE rfl (by simp)).mono fun ev w' hr => ?_
  obtain ⟨h2, O', h3, h4, h5⟩ := hr
  exact ⟨_, h2, _, O', h0.res h3 h4 h5 (prog_S _ _ _ _ _) ((prog_outc A d b q [1, 2]).sum rfl h.sum), prog_outc A d b q [1, 2]⟩
theorem CntS.readOn (h : CntS w0 wr ab wb A O r p e f c k) (hk : k ≤ 1000) (ho : A.off = false) {d b : Nat} (hd : d < 2) (hb : b < 2) : Calls Try.prog 14 #[.pointer (some ⟨ab, 0, none⟩), .int .i64 (d : Nat), .int .i64 (b : Nat), .int .i64 0] wr
    fun ev w' => ∃ v code, ev = .returned (.tuple #[v, .int .i64 code]) ∧ CntO w0 ab wb k r p e f c A code 1 0 0 w' := by
  have hE : A.readI d b 0 = A.read d b 0 := by
    unfold Nd.readI
    rw [if_neg (by rw [ho]; simp), if_neg (by unfold inPg; rw [h.inA hd hb, h.S]; simp)]
    rfl
  have he := readI_any h.o (by omega) d b 0
  rw [hE] at he
  refine he.mono fun ev w' hr => ?_
  obtain ⟨v, h2, O', h3, h4, h5, _⟩ := hr
  exact ⟨v, _, h2, _, O', h.res h3 h4 h5 (read_S _ _ _ _) ((read_outc A d b 0).sum rfl h.sum), read_outc A d b 0⟩
/-! without power nothing is done -/
theorem CntS.same (h : CntS w0 wr ab wb A O r p e f c k) (h2 : CntE A r p e f c) (h3 : NdO w0 w' ab A (k + 1) O') (h4 : Keeps O wr w') (h5 : ∀ j, O' j → O j ∨ wr.heap.size ≤ j) : CntR w0 w' ab wb (k + 1) :=
  ⟨A, O', r, p, e, f, c, h.res h3 h4 h5 rfl h.sum, h2⟩
theorem CntS.eraseOff (h : CntS w0 wr ab wb A O r p e f c k) (hE : CntE A r p e f c) (hk : k ≤ 1000) (ho : A.off = true) (d b : Int) : Calls Try.prog 16 #[.pointer (some ⟨ab, 0, none⟩), .int .i64 d, .int .i64 b] wr
    fun ev w' => ev = .returned (.int .i64 40) ∧ CntR w0 w' ab wb (k + 1) := by
  have he := eraseI_any h.o (by omega) d b
  rw [show A.eraseI d b = (40, A) by unfold Nd.eraseI; rw [if_pos ho]] at he
  refine he.mono fun ev w' hr => ?_
  obtain ⟨h2, O', h3, h4, h5⟩ := hr
  exact ⟨h2, h.same hE h3 h4 h5⟩
theorem CntS.progOff (h : CntS w0 wr ab wb A O r p e f c k) (hE : CntE A r p e f c) (hk : k ≤ 1000) (ho : A.off = true) (d b q : Int) {fr : Nat × Nat} : Calls Try.prog 13 #[.pointer (some ⟨ab, 0, none⟩), .int .i64 d, .int .i64 b, .int .i64 q, .slice (some ⟨wr.heap.size, 0, none⟩) 2 2] (wr.alloc (.cells #[.int .u8 1, .int .u8 2] 5 fr))
    fun ev w' => ev = .returned (.int .i64 40) ∧ CntR w0 w' ab wb (k + 1) := by
  have h0 := h.nil ((Keeps.refl Nil wr).alloc (.cells #[.int .u8 1, .int .u8 2] 5 fr))
  refine (prog_lit (m := 2) (c := 2) h.o (by omega) d b q [1, 2] (fr := fr) (show A.programI d b q [1, 2] = (40, A) by unfold Nd.programI; rw [if_pos ho]) rfl (by simp)).mono fun ev w' hr => ?_
  obtain ⟨h2, O', h3, h4, h5⟩ := hr
  exact ⟨h2, h0.same hE h3 h4 h5⟩
theorem CntS.readOff (h : CntS w0 wr ab wb A O r p e f c k) (hE : CntE A r p e f c) (hk : k ≤ 1000) (ho : A.off = true) (d b : Int) : Calls Try.prog 14 #[.pointer (some ⟨ab, 0, none⟩), .int .i64 d, .int .i64 b, .int .i64 0] wr
    fun ev w' => ∃ v, ev = .returned (.tuple #[v, .int .i64 40]) ∧ CntR w0 w' ab wb (k + 1) := by
  have he := readI_any h.o (by omega) d b 0
  rw [show A.readI d b 0 = (40, A) by unfold Nd.readI; rw [if_pos ho]] at he
  refine he.mono fun ev w' hr => ?_
  obtain ⟨v, h2, O', h3, h4, h5, _⟩ := hr
  exact ⟨v, h2, h.same hE h3 h4 h5⟩
theorem CntS.on (h : CntS w0 wr ab wb A O r p e f c k) (hE : CntE A r p e f c) : Calls Try.prog 20 #[.pointer (some ⟨ab, 0, none⟩)] wr fun ev w' => ev = .returned (.tuple #[]) ∧ CntR w0 w' ab wb (k + 1) := by
  refine (onI_any h.o).mono fun ev w' hr => ?_
  obtain ⟨h1, h2, h3⟩ := hr
  refine ⟨h1, _, O, r, p, e, f, c, ⟨⟨h2.at', h2.good.mono (Nat.le_succ k), h2.keep, h2.new⟩, h.S, h.sum, h3.heap h.want h.far, h.far, h.new⟩, hE.r, hE.p, hE.e, hE.f, hE.c⟩
theorem CntR.up (h : CntR w0 wr ab wb k) : CntR w0 wr ab wb (k + 1) := by
  obtain ⟨A, O, r, p, e, f, c, h1, h2⟩ := h
  exact ⟨A, O, r, p, e, f, c, ⟨⟨h1.o.at', h1.o.good.mono (Nat.le_succ k), h1.o.keep, h1.o.new⟩, h1.S, h1.sum, h1.want, h1.far, h1.new⟩, h2⟩
theorem CntR.nil (h : CntR w0 wr ab wb k) (hk : Keeps Nil wr w') : CntR w0 w' ab wb k := by
  obtain ⟨A, O, r, p, e, f, c, h1, h2⟩ := h
  exact ⟨A, O, r, p, e, f, c, h1.nil hk, h2⟩
/-- what was counted is written -/
theorem CntO.done {code : Int} {dr dp de : Nat} (hE : CntE A r p e f c) (h : CntO w0 ab wb k r p e f c A code dr dp de wr) (hk : Keeps (· = wb) wr w') (hw : w'.heap[wb]? = some (.cells (cntCells (r + dr) (p + dp) (e + de) (f + if code = 43 then 1 else 0) (c + if code = 40 then 1 else 0)) 40 (0, 0))) : CntR w0 w' ab wb (k + 1) := by
  obtain ⟨A', O', h1, h2⟩ := h
  refine ⟨A', O', _, _, _, _, _, h1.set hk hw, ?_⟩
  obtain ⟨rfl, rfl, rfl, rfl, rfl⟩ := hE
  exact ⟨h2.reads, h2.programs, h2.erases, h2.fails, h2.cuts⟩
end Go.Proofs.Ytglpacdenfoicaa
