/- nand: an array with one cut -/
import Derived.Test.YtglpacdenfoicaaNeM
namespace Go.Proofs.Ytglpacdenfoicaa
open Go.RowKit

def kF (tm p : Nat) : Ft := ⟨5, tm, 0, 0, 0, 0, p, [], 0⟩
variable {A : Nd} {tm p n k : Nat}
theorem kF_cut (hF : A.F = [kF tm p]) (op : Nat) : A.cut op = if op = tm then some (p : Int) else none := by
  unfold Nd.cut
  rw [hF]
  by_cases h : op = tm
  · subst h
    rw [if_pos rfl]
    simp [Ft.cuts, kF]
  · rw [if_neg h]
    have : (kF tm p).cuts op = false := by simp [Ft.cuts, kF]; omega
    simp [this]
theorem kF_struck (hF : A.F = [kF tm p]) {q : Int} (hk : (5 == q) = false) (op d n : Int) : A.struck op q d n = false := by
  unfold Nd.struck
  rw [hF]
  simp [Ft.hits, kF, hk]
theorem kF_bad (hF : A.F = [kF tm p]) {q : Int} (hk : (5 == q) = false) (op : Int) (d n : Nat) : A.badP op d n q = false := by
  unfold Nd.badP
  rw [kF_struck hF hk, kF_struck hF (by decide)]; rfl
theorem kF_dead (hF : A.F = [kF tm p]) (d : Nat) : A.dead d = false := kF_struck hF (by decide) _ _ _
theorem kF_now (op d n q : Int) : (kF tm p).now op d n q = false := by simp [Ft.now, kF]
theorem kF_tick (op d n q : Int) : (kF tm p).tick op d n q = kF tm p := by
  unfold Ft.tick
  rw [if_neg (by rw [kF_now]; simp)]
structure CutS (w0 wr : World) (ab : Nat) (A : Nd) (O : Nat → Prop) (n tm p k : Nat) : Prop where
  o : NdO w0 wr ab A k O
  S : A.S = ⟨1, 1, 2, n⟩
  F : A.F = [kF tm p]
variable {w0 wr : World} {ab : Nat} {O : Nat → Prop}
theorem CutS.inA (h : CutS w0 wr ab A O n tm p k) : inAt A.S 0 0 = true := by rw [h.S]; unfold inAt; simp
theorem CutS.inP (h : CutS w0 wr ab A O n tm p k) {q : Nat} (hq : q < 2) : inPg A.S 0 0 q = true := by unfold inPg; rw [h.inA, h.S]; simp; omega
/-- with what it begins: so many reads -/
def CutA (w0 wr : World) (ab n tm p i : Nat) : Prop := ∃ A O, CutS w0 wr ab A O n tm p i ∧ A.off = false ∧ A.ops = i ∧ A.B 0 0 = bk0
/-- behind the cut -/
def CutB (w0 wr : World) (ab n tm p k ops : Nat) (off : Bool) (l : List Int) : Prop := ∃ A O, CutS w0 wr ab A O n tm p k ∧ A.off = off ∧ A.ops = ops ∧ (A.B 0 0).next = 1 ∧ (A.B 0 0).pg 0 = some l
theorem CutA.keep {i : Nat} (h : CutA w0 wr ab n tm p i) : Keeps Nil w0 wr := by obtain ⟨A, O, h, _⟩ := h; exact h.o.keep
theorem CutB.keep {ops : Nat} {off : Bool} {l : List Int} (h : CutB w0 wr ab n tm p k ops off l) : Keeps Nil w0 wr := by obtain ⟨A, O, h, _⟩ := h; exact h.o.keep
theorem CutB.nil {w' : World} {ops : Nat} {off : Bool} {l : List Int} (h : CutB w0 wr ab n tm p k ops off l) (hk : Keeps Nil wr w') : CutB w0 w' ab n tm p k ops off l := by
  obtain ⟨A, O, h, h2⟩ := h
  exact ⟨A, O, ⟨h.o.nil hk, h.S, h.F⟩, h2⟩
theorem CutA.new (hk : Keeps Nil w0 wr) (hn : 1 ≤ n ∧ n ≤ 300) (hp : p ≤ 1000) {fr : Nat × Nat} : Calls Try.prog 12 #[.agg #[.int .i64 1, .int .i64 1, .int .i64 2, .int .i64 (n : Nat)], .slice (some ⟨wr.heap.size, 0, none⟩) 1 1] (wr.alloc (.cells #[.int .i64 5, .int .i64 (tm : Nat), .int .i64 0, .int .i64 0, .int .i64 0, .int .i64 0, .int .i64 (p : Nat), .slice none 0 0] 33 fr))
    fun e w' => ∃ ab, e = .returned (.tuple #[.pointer (some ⟨ab, 0, none⟩), .int .i64 0]) ∧ CutA w0 w' ab n tm p 0 := by
  have hf : FitsI (⟨1, 1, 2, n⟩ : Sh).dies (⟨1, 1, 2, n⟩ : Sh).blocks (⟨1, 1, 2, n⟩ : Sh).pages (⟨1, 1, 2, n⟩ : Sh).bytes := FitsI.of ⟨by simp, by simp, by simp, by simp, by simp, by simp, hn.1, by simp only; omega⟩ (by simp only; omega)
  refine (newI_ok (S := ⟨1, 1, 2, n⟩) (fc := 1) (hk.alloc _) hf (fts_lit wr (f := kF tm p) rfl ⟨by simp [kF]; omega, by simp [kF]⟩ (fr := fr)) (by simp) ?_).mono fun e w' h => ?_
  · have hin : (kF tm p).In ⟨1, 1, 2, n⟩ := ⟨by simp [kF], by simp [kF], by simp [kF], by simp [kF], by simp [kF], by simp [kF], by simp [kF], by simp [kF], by simp [kF], by simp [kF], by simp [kF]⟩
    simp only [List.map_cons, List.map_nil, List.all_cons, List.all_nil, Bool.and_true]
    unfold Ft.may
    rw [decide_eq_true hin]
    rfl
  · obtain ⟨ab, O, h1, h2, _, _⟩ := h
    exact ⟨ab, h1, _, O, ⟨h2, rfl, rfl⟩, rfl, rfl, rfl⟩
theorem CutA.read {i : Nat} (h : CutA w0 wr ab n tm p i) (hi : i < tm) (ht : tm ≤ 1000) : Calls Try.prog 14 #[.pointer (some ⟨ab, 0, none⟩), .int .i64 0, .int .i64 0, .int .i64 0] wr
    fun e w' => ∃ v, e = .returned (.tuple #[v, .int .i64 0]) ∧ CutA w0 w' ab n tm p (i + 1) := by
  obtain ⟨A, O, hS, ho, hops, hB⟩ := h
  have hE : A.readI 0 0 0 = A.read 0 0 0 := by
    unfold Nd.readI
    rw [if_neg (by rw [ho]; simp), if_neg (by rw [show inPg A.S 0 0 0 = true from hS.inP (q := 0) (by decide)]; simp)]
    rfl
  have he := readI_any hS.o (by omega) 0 0 0
  rw [hE, read_sound (by rw [kF_cut hS.F, if_neg (by omega)]), kF_dead hS.F] at he
  refine he.mono fun e w' hr => ?_
  obtain ⟨v, h2, O', h3, _, _⟩ := hr
  refine ⟨v, h2, _, O', ⟨h3, hS.S, ?_⟩, ho, by rw [← hops]; rfl, hB⟩
  show A.F.map _ = _
  rw [hS.F, List.map_cons, List.map_nil, kF_tick]
theorem CutA.prog (h : CutA w0 wr ab n tm p tm) (ht : tm ≤ 1000) {xa : Option Addr} {xc : Nat} {l : List Int} (hx : NumsAt .u8 w0 xa l) (hxl : ∀ g, blk xa = some g → g < w0.heap.size) (hl : l.length = n) (hc : l.length ≤ xc) :
    Calls Try.prog 13 #[.pointer (some ⟨ab, 0, none⟩), .int .i64 0, .int .i64 0, .int .i64 0, .slice xa l.length xc] wr fun e w' => e = .returned (.int .i64 40) ∧ CutB w0 w' ab n tm p (tm + 1) (tm + 1) true (cutAt p n l) := by
  obtain ⟨A, O, hS, ho, hops, hB⟩ := h
  have hE : A.programI 0 0 0 l = A.prog 0 0 0 l := by
    unfold Nd.programI
    rw [if_neg (by rw [ho]; simp), if_neg (by rw [show inPg A.S 0 0 0 = true from hS.inP (q := 0) (by decide), hl, hS.S]; simp), if_neg (by show ¬ ¬ (A.B 0 0).next = 0; rw [hB]; simp [bk0])]
    rfl
  have hc' : A.cut A.ops = some (p : Int) := by rw [kF_cut hS.F, if_pos hops]
  have hP : A.prog 0 0 0 l = (40, ({ A.tickP with off := true, cuts := A.cuts + 1 } : Nd).progOk 0 0 0 (cutAt p n l)) := by
    unfold Nd.prog Nd.doOp
    rw [hc']
    show (40, (if A.dead 0 = true then _ else Nd.progP A.ops 0 0 0 l { A.tickP with off := true, cuts := A.cuts + 1 } p)) = _
    rw [kF_dead hS.F, if_neg (by simp)]
    unfold Nd.progP
    rw [show ({ A.tickP with off := true, cuts := A.cuts + 1 } : Nd).badP A.ops 0 0 2 = false from kF_bad (A := ({ A.tickP with off := true, cuts := A.cuts + 1 } : Nd)) hS.F (by decide) _ _ _]
    show (40, Nd.progOk _ 0 0 0 (cutAt ((p : Int)).toNat A.S.bytes l)) = _
    rw [hS.S]
    rfl
  have he := programI_any hS.o (by omega) (Keeps.refl Nil wr) 0 0 0 (hx.keeps hS.o.keep (fun _ _ h => h)) (fun g hg => .inl (hxl g hg)) hc
  rw [hE, hP] at he
  refine he.mono fun e w' hr => ?_
  obtain ⟨h2, O', h3, _, _⟩ := hr
  refine ⟨h2, _, O', ⟨h3, hS.S, hS.F⟩, rfl, by rw [← hops]; rfl, ?_, ?_⟩
  · unfold Nd.progOk; rw [Nd.setB_same]; rfl
  · unfold Nd.progOk; rw [Nd.setB_same]; rfl
theorem CutB.rdOff {ops : Nat} {l : List Int} (h : CutB w0 wr ab n tm p k ops true l) (hk : k ≤ 1000) : Calls Try.prog 14 #[.pointer (some ⟨ab, 0, none⟩), .int .i64 0, .int .i64 0, .int .i64 0] wr
    fun e w' => e = .returned (.tuple #[.slice none 0 0, .int .i64 40]) ∧ CutB w0 w' ab n tm p (k + 1) ops true l := by
  obtain ⟨A, O, hS, ho, hops, hB⟩ := h
  have he := readI_any hS.o (by omega) 0 0 0
  have hE : A.readI 0 0 0 = (40, A) := by unfold Nd.readI; rw [if_pos ho]
  have hE2 : A.readOutI 0 0 0 = none := by unfold Nd.readOutI; rw [if_pos ho]
  rw [hE, hE2] at he
  refine he.mono fun e w' hr => ?_
  obtain ⟨v, h2, O', h3, _, _, h4⟩ := hr
  cases h4
  exact ⟨h2, _, O', ⟨h3, hS.S, hS.F⟩, ho, hops, hB⟩
theorem CutB.pgOff {ops : Nat} {l : List Int} (h : CutB w0 wr ab n tm p k ops true l) (hk : k ≤ 1000) (q : Int) {xa : Option Addr} {xc : Nat} {x : List Int} (hx : NumsAt .u8 w0 xa x) (hxl : ∀ g, blk xa = some g → g < w0.heap.size) (hc : x.length ≤ xc) :
    Calls Try.prog 13 #[.pointer (some ⟨ab, 0, none⟩), .int .i64 0, .int .i64 0, .int .i64 q, .slice xa x.length xc] wr fun e w' => e = .returned (.int .i64 40) ∧ CutB w0 w' ab n tm p (k + 1) ops true l := by
  obtain ⟨A, O, hS, ho, hops, hB⟩ := h
  have he := programI_any hS.o (by omega) (Keeps.refl Nil wr) 0 0 q (hx.keeps hS.o.keep (fun _ _ h => h)) (fun g hg => .inl (hxl g hg)) hc
  have hE : A.programI 0 0 q x = (40, A) := by unfold Nd.programI; rw [if_pos ho]
  rw [hE] at he
  refine he.mono fun e w' hr => ?_
  obtain ⟨h2, O', h3, _, _⟩ := hr
  exact ⟨h2, _, O', ⟨h3, hS.S, hS.F⟩, ho, hops, hB⟩
theorem CutB.erOff {ops : Nat} {l : List Int} (h : CutB w0 wr ab n tm p k ops true l) (hk : k ≤ 1000) : Calls Try.prog 16 #[.pointer (some ⟨ab, 0, none⟩), .int .i64 0, .int .i64 0] wr
    fun e w' => e = .returned (.int .i64 40) ∧ CutB w0 w' ab n tm p (k + 1) ops true l := by
  obtain ⟨A, O, hS, ho, hops, hB⟩ := h
  have he := eraseI_any hS.o (by omega) 0 0
  have hE : A.eraseI 0 0 = (40, A) := by unfold Nd.eraseI; rw [if_pos ho]
  rw [hE] at he
  refine he.mono fun e w' hr => ?_
  obtain ⟨h2, O', h3, _, _⟩ := hr
  exact ⟨h2, _, O', ⟨h3, hS.S, hS.F⟩, ho, hops, hB⟩
theorem CutB.opsC {ops : Nat} {off : Bool} {l : List Int} (h : CutB w0 wr ab n tm p k ops off l) : Calls Try.prog 19 #[.pointer (some ⟨ab, 0, none⟩)] wr fun e w' => e = .returned (.int .i64 (ops : Nat)) ∧ w' = wr := by
  obtain ⟨A, O, hS, ho, hops, hB⟩ := h
  rw [← hops]
  exact opsI_any hS.o
theorem CutB.on {ops : Nat} {off : Bool} {l : List Int} (h : CutB w0 wr ab n tm p k ops off l) : Calls Try.prog 20 #[.pointer (some ⟨ab, 0, none⟩)] wr fun e w' => e = .returned (.tuple #[]) ∧ CutB w0 w' ab n tm p k ops false l := by
  obtain ⟨A, O, hS, ho, hops, hB⟩ := h
  refine (onI_any hS.o).mono fun e w' hr => ?_
  obtain ⟨h1, h2, _⟩ := hr
  exact ⟨h1, _, O, ⟨h2, hS.S, hS.F⟩, rfl, hops, hB⟩
/-- what lies there is read; it stays while the array is used further -/
theorem CutB.rd {l : List Int} (h : CutB w0 wr ab n tm p k (tm + 1) false l) (hk : k ≤ 1000) : Calls Try.prog 14 #[.pointer (some ⟨ab, 0, none⟩), .int .i64 0, .int .i64 0, .int .i64 0] wr
    fun e w' => ∃ g c, e = .returned (.tuple #[.slice (some ⟨g, 0, none⟩) l.length c, .int .i64 0]) ∧ NumRow .u8 w' 5 (some ⟨g, 0, none⟩) c l ∧ CutB w0 w' ab n tm p (k + 1) (tm + 2) false l := by
  obtain ⟨A, O, hS, ho, hops, hB⟩ := h
  have hcut : A.cut A.ops = none := by rw [kF_cut hS.F, if_neg (by omega)]
  have hin : inPg A.S 0 0 0 = true := hS.inP (q := 0) (by decide)
  have hE : A.readI 0 0 0 = A.read 0 0 0 := by
    unfold Nd.readI
    rw [if_neg (by rw [ho]; simp), if_neg (by rw [hin]; simp)]
    rfl
  have hst : (A.readSt A.ops 0 0 0).1 = l := by
    unfold Nd.readSt
    rw [hS.F]
    simp only [List.foldl_cons, List.foldl_nil]
    unfold flipF
    rw [if_neg (by rw [kF_now]; simp)]
    show pgBytes A.S.bytes ((A.B 0 0).pg 0) = l
    rw [hB.2]; rfl
  have hO : A.readOutI 0 0 0 = some l := by
    unfold Nd.readOutI
    rw [if_neg (by rw [ho]; simp), if_neg (by rw [hin]; simp)]
    show A.readOut 0 0 0 = _
    unfold Nd.readOut
    rw [hcut]
    show (if A.dead 0 = true then none else some _) = _
    rw [kF_dead hS.F, if_neg (by simp), hst]
  have he := readI_any hS.o (by omega) 0 0 0
  rw [hE, hO, read_sound hcut, kF_dead hS.F] at he
  refine he.mono fun e w' hr => ?_
  obtain ⟨v, h2, O', h3, _, _, h4⟩ := hr
  obtain ⟨g, c, rfl, h5, _, _⟩ := h4
  refine ⟨g, c, h2, h5, _, O', ⟨h3, hS.S, ?_⟩, ho, by show A.ops + 1 = _; rw [hops], hB⟩
  show A.F.map _ = _
  rw [hS.F, List.map_cons, List.map_nil, kF_tick]
theorem CutB.nextC {ops : Nat} {off : Bool} {l : List Int} (h : CutB w0 wr ab n tm p k ops off l) : Calls Try.prog 18 #[.pointer (some ⟨ab, 0, none⟩), .int .i64 0, .int .i64 0] wr fun e w' => e = .returned (.int .i64 1) ∧ w' = wr := by
  obtain ⟨A, O, hS, ho, hops, hB⟩ := h
  have he := nextI_any hS.o 0 0
  unfold Nd.nextI at he
  rw [if_pos hS.inA] at he
  rw [show (A.B (0 : Int).toNat (0 : Int).toNat).next = 1 from hB.1] at he
  exact he
theorem CutB.prog {ops : Nat} {l : List Int} (h : CutB w0 wr ab n tm p k ops false l) (hop : ¬ ops = tm) (hk : k ≤ 1000) {xa : Option Addr} {xc : Nat} {x : List Int} (hx : NumsAt .u8 w0 xa x) (hxl : ∀ g, blk xa = some g → g < w0.heap.size) (hl : x.length = n) (hc : x.length ≤ xc) :
    Calls Try.prog 13 #[.pointer (some ⟨ab, 0, none⟩), .int .i64 0, .int .i64 0, .int .i64 1, .slice xa x.length xc] wr fun e w' => e = .returned (.int .i64 0) ∧ Keeps Nil w0 w' := by
  obtain ⟨A, O, hS, ho, hops, hB⟩ := h
  have hcut : A.cut A.ops = none := by rw [kF_cut hS.F, if_neg (by omega)]
  have hE : A.programI 0 0 1 x = A.prog 0 0 1 x := by
    unfold Nd.programI
    rw [if_neg (by rw [ho]; simp), if_neg (by rw [show inPg A.S 0 0 1 = true from hS.inP (q := 1) (by decide), hl, hS.S]; simp), if_neg (by show ¬ ¬ (A.B 0 0).next = 1; rw [hB.1]; simp)]
    rfl
  have he := programI_any hS.o (by omega) (Keeps.refl Nil wr) 0 0 1 (hx.keeps hS.o.keep (fun _ _ h => h)) (fun g hg => .inl (hxl g hg)) hc
  rw [hE, prog_sound hcut (kF_bad hS.F (by decide) _ _ _), kF_dead hS.F] at he
  refine he.mono fun e w' hr => ?_
  obtain ⟨h2, O', h3, _, _⟩ := hr
  exact ⟨h2, h3.keep⟩
theorem cutAt_get {p n k : Nat} {l : List Int} (hl : l.length = n) (hk : k < n) : gi (cutAt p n l) k = if k < p then gi l k else 255 := by
  unfold cutAt gi
  simp only [List.getD_eq_getElem?_getD]
  by_cases h : k < p
  · rw [if_pos h, List.getElem?_append_left (by rw [List.length_take]; omega), List.getElem?_take, if_pos h]
  · rw [if_neg h, List.getElem?_append_right (by rw [List.length_take]; omega), List.getElem?_replicate, if_pos (by rw [List.length_take]; omega)]
    rfl
end Go.Proofs.Ytglpacdenfoicaa
