/- NandKeeps: the array beside what is known of it -/
import Derived.Test.YtglpacdenfoicaaNeK
import Derived.Test.YtglpacdenfoicaaNeW
import Derived.Test.YtglpacdenfoicaaMaps
namespace Go.Proofs.Ytglpacdenfoicaa
open Go.RowKit

theorem mget_del_same {k : Int} {f : List (Int × Value)} (h : (mkeys f).Nodup) : mget k (mdel k f) = none := by
  rw [mget_none, mkeys_del]
  exact h.not_mem_erase
theorem nodup_del {k : Int} {f : List (Int × Value)} (h : (mkeys f).Nodup) : (mkeys (mdel k f)).Nodup := by
  rw [mkeys_del]; exact h.erase k
theorem nodup_set {k : Int} {x : Value} {f : List (Int × Value)} (h : (mkeys f).Nodup) : (mkeys (mset k x f)).Nodup := by
  by_cases hk : k ∈ mkeys f
  · rw [mkeys_set_in hk]; exact h
  · rw [mset_new hk]
    unfold mkeys at *
    rw [List.map_append]
    exact List.nodup_append.2 ⟨h, by simp, fun a ha b hb e => hk (by simp at hb; rw [← hb, ← e]; exact ha)⟩
def strV (l : List Int) : Value := .string (strOfNums l)
structure KpC (w0 wr : World) (sb ab mb nb Bn P : Nat) (A : Nd) (O : Nat → Prop) (k : Nat) (KN : List (Int × Value)) (NX : List Int) : Prop where
  o : NdO w0 wr ab A k O
  S : A.S = ⟨1, Bn, P, 4⟩
  F : A.F = []
  off : A.off = false
  sh : wr.heap[sb]? = some (.cells (shCells ⟨1, Bn, P, 4⟩) 31 (0, 0))
  shO : ¬ O sb
  shN : w0.heap.size ≤ sb
  mp : MapAt wr mb KN
  mpO : ¬ O mb
  mpN : w0.heap.size ≤ mb
  nd : (mkeys KN).Nodup
  nx : NumRow .i64 wr 3 (some ⟨nb, 0, none⟩) Bn NX
  nxL : NX.length = Bn
  nxO : ¬ O nb
  nxN : w0.heap.size ≤ nb
/-- of a block what is known is what lies there -/
def KRel (A : Nd) (P : Nat) (KN : List (Int × Value)) (b : Nat) : Prop := ∀ p, p < P → mget ((b * P + p : Nat) : Int) KN = ((A.B 0 b).pg p).map strV
def KNxt (A : Nd) (P : Nat) (NX : List Int) (b : Nat) : Prop := (A.B 0 b).next = gi NX b ∧ 0 ≤ gi NX b ∧ gi NX b ≤ (P : Int)
/-- the whole -/
def KpR (w0 wr : World) (sb ab mb nb Bn P k : Nat) : Prop := ∃ A O KN NX, KpC w0 wr sb ab mb nb Bn P A O k KN NX ∧ ∀ b, b < Bn → KRel A P KN b ∧ KNxt A P NX b
variable {w0 wr w' : World} {sb ab mb nb Bn P k : Nat} {A A' : Nd} {O O' : Nat → Prop} {KN KN' : List (Int × Value)} {NX : List Int}
theorem KpC.nil (h : KpC w0 wr sb ab mb nb Bn P A O k KN NX) (hk : Keeps Nil wr w') : KpC w0 w' sb ab mb nb Bn P A O k KN NX :=
  ⟨h.o.nil hk, h.S, h.F, h.off, hk.heap h.sh (fun h => h), h.shO, h.shN, h.mp.keeps hk (fun h => h), h.mpO, h.mpN, h.nd, h.nx.keeps hk (fun _ _ h => h), h.nxL, h.nxO, h.nxN⟩
theorem KpC.nbHeap (h : KpC w0 wr sb ab mb nb Bn P A O k KN NX) : ∃ c, wr.heap[nb]? = some (.cells c 3 (0, 0)) := by
  rcases RowAt.form h.nx with ⟨h1, _⟩ | ⟨g, cur, h1, _, h2, _⟩
  · cases h1
  · cases h1; exact ⟨cur, h2⟩
/-- blocks beside all that is here -/
theorem KpC.far {T : Nat → Prop} (h : KpC w0 wr sb ab mb nb Bn P A O k KN NX) (hk : Keeps T wr w') (h1 : ∀ j, O j → ¬ T j) (h2 : ∀ j, T j → w0.heap.size ≤ j) (h3 : ¬ T sb) (h4 : ¬ T mb) (h5 : ¬ T nb) : KpC w0 w' sb ab mb nb Bn P A O k KN NX :=
  ⟨h.o.far hk h1 h2, h.S, h.F, h.off, hk.heap h.sh h3, h.shO, h.shN, h.mp.keeps hk h4, h.mpO, h.mpN, h.nd, h.nx.keeps hk (fun g hg => by cases hg; exact h5), h.nxL, h.nxO, h.nxN⟩
/-- an operation of the array -/
theorem KpC.res {k' : Nat} (h : KpC w0 wr sb ab mb nb Bn P A O k KN NX) (h1 : NdO w0 w' ab A' k' O') (h2 : Keeps O wr w') (h3 : ∀ j, O' j → O j ∨ wr.heap.size ≤ j) (h4 : A'.S = A.S) (h5 : A'.F = []) (h6 : A'.off = false) : KpC w0 w' sb ab mb nb Bn P A' O' k' KN NX := by
  have hO : ∀ g, g < wr.heap.size → ¬ O g → ¬ O' g := fun g hg hn e => by
    rcases h3 g e with q | q
    · exact hn q
    · omega
  obtain ⟨c, hc⟩ := h.nbHeap
  exact ⟨h1, by rw [h4]; exact h.S, h5, h6, h2.heap h.sh h.shO, hO _ (lt_of_heap h.sh) h.shO, h.shN, h.mp.keeps h2 h.mpO, hO _ h.mp.lt h.mpO, h.mpN, h.nd, h.nx.keeps h2 (fun g hg => by cases hg; exact h.nxO), h.nxL, hO _ (lt_of_heap hc) h.nxO, h.nxN⟩
/-- the map is written -/
theorem KpC.map (h : KpC w0 wr sb ab mb nb Bn P A O k KN NX) (hk : Keeps (· = mb) wr w') (hm : MapAt w' mb KN') (hn : (mkeys KN').Nodup) : KpC w0 w' sb ab mb nb Bn P A O k KN' NX := by
  obtain ⟨c, hc⟩ := h.nbHeap
  exact ⟨h.o.far hk (fun j hj e => h.mpO (by rw [← e]; exact hj)) (fun j hj => by rw [hj]; exact h.mpN), h.S, h.F, h.off, hk.heap h.sh (fun e => h.mp.ne h.sh e.symm), h.shO, h.shN, hm, h.mpO, h.mpN, hn, h.nx.keeps hk (fun g hg e => by cases hg; exact h.mp.ne hc e.symm), h.nxL, h.nxO, h.nxN⟩
/-- the next page of a block is written -/
theorem KpC.next (h : KpC w0 wr sb ab mb nb Bn P A O k KN NX) (b : Nat) (v : Int) : KpC w0 (wr.setCell ⟨nb, b, none⟩ (.int .i64 v)) sb ab mb nb Bn P A O k KN (NX.set b v) := by
  obtain ⟨c, hc⟩ := h.nbHeap
  have hk : Keeps (· = nb) wr (wr.setCell ⟨nb, b, none⟩ (.int .i64 v)) := (Keeps.refl (· = nb) wr).setCell (.inl rfl) _
  exact ⟨h.o.far hk (fun j hj e => h.nxO (by rw [← e]; exact hj)) (fun j hj => by rw [hj]; exact h.nxN), h.S, h.F, h.off, hk.heap h.sh (cells_ne h.sh hc (by decide)), h.shO, h.shN, h.mp.keeps hk (h.mp.ne hc), h.mpO, h.mpN, h.nd, h.nx.set b v, by rw [List.length_set]; exact h.nxL, h.nxO, h.nxN⟩
theorem gi_set {l : List Int} {b j : Nat} {v : Int} (hb : b < l.length) : gi (l.set b v) j = if j = b then v else gi l j := by
  unfold gi
  simp only [List.getD_eq_getElem?_getD]
  by_cases h : j = b
  · subst h; rw [if_pos rfl]; simp [hb]
  · rw [if_neg h]; rw [List.getElem?_set_ne (by omega)]
/-- two places have two keys -/
theorem key_inj {P b b' p p' : Nat} (hp : p < P) (hp' : p' < P) (h : b * P + p = b' * P + p') : b = b' ∧ p = p' := by
  have h1 : (b * P + p) / P = b := by rw [Nat.mul_comm, Nat.mul_add_div (by omega), Nat.div_eq_of_lt hp]; omega
  have h2 : (b' * P + p') / P = b' := by rw [Nat.mul_comm, Nat.mul_add_div (by omega), Nat.div_eq_of_lt hp']; omega
  have hb : b = b' := by rw [← h1, ← h2, h]
  subst hb
  exact ⟨rfl, by omega⟩
theorem KpC.inA (h : KpC w0 wr sb ab mb nb Bn P A O k KN NX) {b : Nat} (hb : b < Bn) : inAt A.S 0 b = true := by rw [h.S]; unfold inAt; simp; omega
theorem KpC.inP (h : KpC w0 wr sb ab mb nb Bn P A O k KN NX) {b p : Nat} (hb : b < Bn) (hp : p < P) : inPg A.S 0 b p = true := by unfold inPg; rw [h.inA hb, h.S]; simp; omega
/-! the block that is erased: what is known of it is still there -/
def KErs (w0 wr : World) (sb ab mb nb Bn P k b i : Nat) : Prop := ∃ A O KN NX, KpC w0 wr sb ab mb nb Bn P A O k KN NX ∧ (∀ j, j < Bn → j ≠ b → KRel A P KN j ∧ KNxt A P NX j) ∧ (∀ p, p < i → mget ((b * P + p : Nat) : Int) KN = none) ∧ (∀ p, p < P → (A.B 0 b).pg p = none) ∧ (A.B 0 b).next = 0
theorem KpR.erase (h : KpR w0 wr sb ab mb nb Bn P k) (hk : k ≤ 1000) {b : Nat} (hb : b < Bn) : Calls Try.prog 16 #[.pointer (some ⟨ab, 0, none⟩), .int .i64 0, .int .i64 (b : Nat)] wr
    fun e w' => e = .returned (.int .i64 0) ∧ KErs w0 w' sb ab mb nb Bn P (k + 1) b 0 := by
  obtain ⟨A, O, KN, NX, hC, hR⟩ := h
  have hE : A.eraseI 0 b = A.erase 0 b := by
    unfold Nd.eraseI
    rw [if_neg (by rw [hC.off]; simp), if_neg (by rw [hC.inA hb]; simp)]
    rfl
  have he := eraseI_any hC.o (by omega) 0 b
  rw [hE, erase_nil hC.F] at he
  refine he.mono fun e w' hr => ?_
  obtain ⟨h2, O', h3, h4, h5⟩ := hr
  refine ⟨h2, _, O', KN, NX, hC.res h3 h4 h5 rfl hC.F hC.off, ?_, fun p hp => absurd hp (Nat.not_lt_zero _), ?_, ?_⟩
  · intro j hj hjb
    have : (((A.tickE.wear 0 b).eraseOk 0 b).B 0 j) = A.B 0 j := by
      unfold Nd.eraseOk
      rw [Nd.setB_other _ _ (by omega)]
      unfold Nd.wear
      rw [Nd.setB_other _ _ (by omega)]
      rfl
    unfold KRel KNxt
    rw [this]
    exact hR j hj
  · intro p hp
    unfold Nd.eraseOk
    rw [Nd.setB_same]
    show (if p < A.S.pages then none else _) = none
    rw [hC.S, if_pos (show p < P from hp)]
  · unfold Nd.eraseOk
    rw [Nd.setB_same]; rfl
/-- one key less -/
theorem KErs.step {b i : Nat} (hC : KpC w0 wr sb ab mb nb Bn P A O k KN NX) (hR : ∀ j, j < Bn → j ≠ b → KRel A P KN j ∧ KNxt A P NX j) (hM : ∀ p, p < i → mget ((b * P + p : Nat) : Int) KN = none) (hP : ∀ p, p < P → (A.B 0 b).pg p = none) (hN : (A.B 0 b).next = 0)
    (hi : i < P) (hm : MapAt w' mb (mdel ((b * P + i : Nat) : Int) KN)) (hk : Keeps (· = mb) wr w') : KErs w0 w' sb ab mb nb Bn P k b (i + 1) := by
  refine ⟨A, O, _, NX, hC.map hk hm (nodup_del hC.nd), ?_, ?_, hP, hN⟩
  · intro j hj hjb
    refine ⟨fun p hp => ?_, (hR j hj hjb).2⟩
    rw [mget_del_other]
    · exact (hR j hj hjb).1 p hp
    · intro e
      exact hjb (key_inj hp hi (by omega)).1
  · intro p hp
    by_cases e : p = i
    · subst e
      exact mget_del_same hC.nd
    · rw [mget_del_other]
      · exact hM p (by omega)
      · intro e2
        exact e (by omega)
theorem KErs.done {b : Nat} (h : KErs w0 wr sb ab mb nb Bn P k b P) (hb : b < Bn) : KpR w0 (wr.setCell ⟨nb, b, none⟩ (.int .i64 0)) sb ab mb nb Bn P k := by
  obtain ⟨A, O, KN, NX, hC, hR, hM, hP, hN⟩ := h
  refine ⟨A, O, KN, _, hC.next b 0, ?_⟩
  intro j hj
  by_cases e : j = b
  · subst e
    refine ⟨fun p hp => by rw [hM p hp, hP p hp]; rfl, ?_⟩
    unfold KNxt
    rw [gi_set (by rw [hC.nxL]; exact hj), if_pos rfl]
    exact ⟨hN, by omega, by omega⟩
  · refine ⟨(hR j hj e).1, ?_⟩
    have := (hR j hj e).2
    unfold KNxt at this ⊢
    rw [gi_set (by rw [hC.nxL]; exact hb), if_neg e]
    exact this
/-! a page that is programmed -/
theorem KpC.prog {b q : Nat} {w2 : World} {xa : Option Addr} {xc : Nat} {l : List Int} (hC : KpC w0 wr sb ab mb nb Bn P A O k KN NX) (hk : k ≤ 1000) (hb : b < Bn) (hq : q < P) (hn : (A.B 0 b).next = (q : Int)) (hk2 : Keeps Nil wr w2) (hx : NumsAt .u8 w2 xa l) (hxl : ∀ g, blk xa = some g → wr.heap.size ≤ g) (hl : l.length = 4) (hc : l.length ≤ xc) :
    Calls Try.prog 13 #[.pointer (some ⟨ab, 0, none⟩), .int .i64 0, .int .i64 (b : Nat), .int .i64 (q : Nat), .slice xa l.length xc] w2 fun e w' => e = .returned (.int .i64 0) ∧ ∃ O', KpC w0 w' sb ab mb nb Bn P (A.tickP.progOk 0 b q l) O' (k + 1) KN NX ∧ NumsAt .u8 w' xa l := by
  have hE : A.programI 0 b q l = A.prog 0 b q l := by
    unfold Nd.programI
    rw [if_neg (by rw [hC.off]; simp), if_neg (by rw [hC.inP hb hq, hl, hC.S]; simp), if_neg (by show ¬ ¬ (A.B 0 b).next = q; rw [hn]; simp)]
    rfl
  have he := programI_any hC.o (by omega) hk2 0 b q hx (fun g hg => .inr (hxl g hg)) hc
  rw [hE, prog_nil hC.F] at he
  refine he.mono fun e w' hr => ?_
  obtain ⟨h2, O', h3, h4, h5⟩ := hr
  exact ⟨h2, O', (hC.nil hk2).res h3 h4 h5 rfl hC.F hC.off, hx.keeps h4 (fun g hg hO => by have := hxl g hg; have := hC.o.lt hO; omega)⟩
theorem KpC.known {b q : Nat} {w1 : World} {l : List Int} (hC : KpC w0 wr sb ab mb nb Bn P (A.tickP.progOk 0 b q l) O k KN NX) (hR : ∀ j, j < Bn → KRel A P KN j ∧ KNxt A P NX j) (hb : b < Bn) (hq : q < P)
    (hm : MapAt w1 mb (mset ((b * P + q : Nat) : Int) (strV l) KN)) (hk : Keeps (· = mb) wr w1) : KpR w0 (w1.setCell ⟨nb, b, none⟩ (.int .i64 ((q : Int) + 1))) sb ab mb nb Bn P k := by
  refine ⟨_, O, _, _, (hC.map hk hm (nodup_set hC.nd)).next b _, ?_⟩
  intro j hj
  by_cases e : j = b
  · subst e
    refine ⟨fun p hp => ?_, ?_⟩
    · rw [mget_set]
      unfold Nd.progOk
      rw [Nd.setB_same]
      show _ = (if p = q then some l else (A.B 0 j).pg p).map strV
      by_cases hpq : p = q
      · subst hpq
        rw [if_pos rfl, if_pos rfl]; rfl
      · rw [if_neg (by omega), if_neg hpq]
        exact (hR j hj).1 p hp
    · unfold KNxt Nd.progOk
      rw [Nd.setB_same, gi_set (by rw [hC.nxL]; exact hj), if_pos rfl]
      exact ⟨rfl, by omega, by omega⟩
  · have hB : (A.tickP.progOk 0 b q l).B 0 j = A.B 0 j := by
      unfold Nd.progOk
      rw [Nd.setB_other _ _ (by omega)]; rfl
    refine ⟨fun p hp => ?_, ?_⟩
    · rw [hB, mget_set, if_neg (fun e2 => e (key_inj hp hq (by omega)).1)]
      exact (hR j hj).1 p hp
    · have := (hR j hj).2
      unfold KNxt at this ⊢
      rw [hB, gi_set (by rw [hC.nxL]; exact hb), if_neg e]
      exact this
/-! a page that is read -/
theorem KpC.read {b p : Nat} (hC : KpC w0 wr sb ab mb nb Bn P A O k KN NX) (hk : k ≤ 1000) (hb : b < Bn) (hp : p < P) :
    Calls Try.prog 14 #[.pointer (some ⟨ab, 0, none⟩), .int .i64 0, .int .i64 (b : Nat), .int .i64 (p : Nat)] wr fun e w' => ∃ g c, e = .returned (.tuple #[.slice (some ⟨g, 0, none⟩) 4 c, .int .i64 0]) ∧
      NumRow .u8 w' 5 (some ⟨g, 0, none⟩) c (pgBytes 4 ((A.B 0 b).pg p)) ∧ wr.heap.size ≤ g ∧ ∃ A' O', KpC w0 w' sb ab mb nb Bn P A' O' (k + 1) KN NX ∧ A'.B = A.B ∧ ¬ O' g := by
  have hin := hC.inP hb hp
  have hE : A.readI 0 b p = A.read 0 b p := by
    unfold Nd.readI
    rw [if_neg (by rw [hC.off]; simp), if_neg (by rw [hin]; simp)]
    rfl
  have hst : (A.readSt A.ops 0 b p).1 = pgBytes 4 ((A.B 0 b).pg p) := by
    unfold Nd.readSt
    rw [hC.F, hC.S]; rfl
  have hO : A.readOutI 0 b p = some (pgBytes 4 ((A.B 0 b).pg p)) := by
    unfold Nd.readOutI
    rw [if_neg (by rw [hC.off]; simp), if_neg (by rw [hin]; simp)]
    show A.readOut 0 b p = _
    unfold Nd.readOut
    rw [cut_nil hC.F, dead_nil hC.F]
    show some (A.readSt A.ops 0 b p).1 = _
    rw [hst]
  have hrd : A.read 0 b p = (0, (Nd.readW A.ops 0 b p A.tickR).2) := by
    unfold Nd.read Nd.doOp
    rw [cut_nil hC.F, dead_nil hC.F]; rfl
  have hlen : (pgBytes 4 ((A.B 0 b).pg p)).length = 4 := by
    have := pgBytes_len hC.o.good.ok 0 b p
    rw [hC.S] at this
    exact this
  have he := readI_any hC.o (by omega) 0 b p
  rw [hE, hO, hrd] at he
  refine he.mono fun e w' hr => ?_
  obtain ⟨v, h2, O', h3, h4, h5, h6⟩ := hr
  obtain ⟨g, c, rfl, h7, h8, h9⟩ := h6
  rw [hlen] at h2
  refine ⟨g, c, h2, h7, h8, _, O', hC.res h3 h4 h5 rfl ?_ hC.off, rfl, h9⟩
  show A.F.map _ = []
  rw [hC.F]; rfl
theorem KpC.nextC {b : Nat} (hC : KpC w0 wr sb ab mb nb Bn P A O k KN NX) (hb : b < Bn) : Calls Try.prog 18 #[.pointer (some ⟨ab, 0, none⟩), .int .i64 0, .int .i64 (b : Nat)] wr fun e w' => e = .returned (.int .i64 (A.B 0 b).next) ∧ w' = wr := by
  have he := nextI_any hC.o 0 b
  unfold Nd.nextI at he
  rw [if_pos (hC.inA hb)] at he
  exact he
end Go.Proofs.Ytglpacdenfoicaa
