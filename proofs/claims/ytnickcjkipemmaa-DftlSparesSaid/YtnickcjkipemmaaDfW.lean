/- DftlPlays: the state of the play, and its steps -/
import Derived.Test.YtnickcjkipemmaaDfV
namespace Go.Proofs.Ytnickcjkipemmaa
open Go.RowKit

variable {w wr w5 : World} {mb : Nat} {keys keys' : Int} {M M' : Int → List Int} {f : List (Int × Value)} {B C : Int → Nat} {Q T : Nat → Prop}
def updM {α : Type} (M : Int → α) (k : Int) (l : α) : Int → α := fun j => if j = k then l else M j
theorem updM_same {α : Type} (M : Int → α) (k : Int) (l : α) : updM M k l k = l := if_pos rfl
theorem updM_other {α : Type} (M : Int → α) {k j : Int} (l : α) (h : j ≠ k) : updM M k l j = M j := if_neg h
/-- a key is given a row -/
theorem MayB.put {W w' : World} {k : Int} {l : List Int} {g c : Nat} (h : MayB w mb keys M f B C Q) (hk0 : 0 ≤ k) (hk1 : k < keys') (hle : keys ≤ keys') (hall : ∀ j, j < keys' → j = k ∨ j < keys)
    (hW : Keeps (fun j => k < keys ∧ j = B k) w W) (hrow : RowAt W 30 1 (some ⟨g, 0, none⟩) l.length c (ncells l)) (hg : (k < keys ∧ g = B k) ∨ w.heap.size ≤ g)
    (hm : MapB w' mb (mset k (.slice (some ⟨g, 0, none⟩) l.length c) f)) (hk : Keeps (· = mb) W w') :
    MayB w' mb keys' (updM M k l) (mset k (.slice (some ⟨g, 0, none⟩) l.length c) f) (updM B k g) (updM C k c) (fun j => Q j ∨ j = g) := by
  have hgW : g < W.heap.size := RowAt.lt hrow rfl
  have hgm : g ≠ mb := by
    rintro rfl
    rcases hg with ⟨hg1, hg2⟩ | hg
    · obtain ⟨_, hr, _⟩ := h.row k hk0 hg1
      rcases RowAt.form hr with ⟨h1, _⟩ | ⟨g', cur, h1, _, h2, _⟩
      · cases h1
      · cases h1
        obtain ⟨es, cl, h3, _⟩ := h.map
        rw [hg2, h2] at h3; cases h3
    · have := h.lt _ h.own; omega
  have hold : ∀ j, 0 ≤ j → j < keys → j ≠ k → B j ≠ g := by
    intro j h0 h1 hjk e
    rcases hg with ⟨hg1, hg2⟩ | hg
    · exact h.inj j k h0 h1 hk0 hg1 hjk (e.trans hg2)
    · have := h.lt _ (h.row j h0 h1).2.2; omega
  refine ⟨hm, .inl h.own, fun j hj => ?_, fun j h0 h1 => ?_, fun i j hi0 hi1 hj0 hj1 hij => ?_, fun j hj => ?_, mset_nodup h.nodup⟩
  · by_cases hjk : j = k
    · rw [hjk]; exact ⟨hk0, hk1⟩
    · have hj2 : j ∈ mkeys f := by
        rw [← Decidable.not_not (p := j ∈ mkeys f)]
        intro hn
        have e1 : mget j (mset k (.slice (some ⟨g, 0, none⟩) l.length c) f) = none := by rw [mget_set, if_neg hjk]; exact mget_none.2 hn
        exact mget_none.1 e1 hj
      have := h.within j hj2
      exact ⟨this.1, by omega⟩
  · by_cases hjk : j = k
    · subst hjk
      rw [updM_same, updM_same, updM_same]
      refine ⟨by rw [mget_set, if_pos rfl], ?_, .inr rfl⟩
      exact hrow.keeps hk (fun g' hg' e => by simp [blk] at hg'; exact hgm (hg'.trans e))
    · rw [updM_other _ _ hjk, updM_other _ _ hjk, updM_other _ _ hjk]
      have hjl : j < keys := (hall j h1).resolve_left hjk
      obtain ⟨a1, a2, a3⟩ := h.row j h0 hjl
      refine ⟨by rw [mget_set, if_neg hjk]; exact a1, (a2.keeps hW (fun g' hg' e => ?_)).keeps hk (fun g' hg' e => ?_), .inl a3⟩
      · simp [blk] at hg'
        exact h.inj j k h0 hjl hk0 e.1 hjk (hg'.trans e.2)
      · simp [blk] at hg'
        rcases RowAt.form a2 with ⟨h1, _⟩ | ⟨g2, cur, h1, _, h2, _⟩
        · cases h1
        · cases h1
          obtain ⟨es, cl, h3, _⟩ := h.map
          rw [← e, ← hg', h2] at h3; cases h3
  · by_cases hik : i = k
    · subst hik
      rw [updM_same, updM_other _ _ (Ne.symm hij)]
      exact Ne.symm (hold j hj0 ((hall j hj1).resolve_left (Ne.symm hij)) (Ne.symm hij))
    · rw [updM_other _ _ hik]
      have hil : i < keys := (hall i hi1).resolve_left hik
      by_cases hjk : j = k
      · rw [hjk, updM_same]; exact hold i hi0 hil hik
      · rw [updM_other _ _ hjk]
        exact h.inj i j hi0 hil hj0 ((hall j hj1).resolve_left hjk) hij
  · have s1 := hW.size
    have s2 := hk.size
    rcases hj with hj | hj
    · have := h.lt j hj; omega
    · omega
/-- a row of one number, made -/
theorem rowAt_one {g : Nat} {n : Int} (h : w.heap[g]? = some (.cells #[.int .u64 n] 30 (0, 0))) : RowAt w 30 1 (some ⟨g, 0, none⟩) [n].length 1 (ncells [n]) :=
  ⟨rfl, .inr ⟨g, 1, _, rfl, Nat.zero_le _, h, Nat.le_refl _, by decide, rfl, rfl⟩⟩

/-! ### the play -/
structure PlayD (w wr : World) (db pb : Nat) (keys most : Int) (mb : Nat) (b i : Nat) (D : Df) (M : Int → List Int) (O Q : Nat → Prop) : Prop where
  df : DfIn w wr db pb keys most D O
  may : MayAt wr mb keys M Q
  dis : ∀ k, O k → ¬ Q k
  new : ∀ k, Q k → w.heap.size ≤ k
  ok : D.Ok keys most
  lt : D.P.Lt b
  cur : ∀ k, 0 ≤ k → k < keys → D.cur k ∈ M k
  len : ∀ k, (M k).length ≤ i + 1
variable {db pb b b' i : Nat} {most : Int} {D D' : Df} {O : Nat → Prop}
theorem PlayD.nil (h : PlayD w wr db pb keys most mb b i D M O Q) (hk : Keeps Nil wr w5) : PlayD w w5 db pb keys most mb b i D M O Q :=
  ⟨h.df.nil hk, h.may.keeps hk (fun _ _ h => h), h.dis, h.new, h.ok, h.lt, h.cur, h.len⟩
theorem PlayD.mono (h : PlayD w wr db pb keys most mb b i D M O Q) (hb : b ≤ b') : PlayD w wr db pb keys most mb b' i D M O Q :=
  ⟨h.df, h.may, h.dis, h.new, h.ok, h.lt.mono hb, h.cur, h.len⟩
/-- a call of the map: what may be read is said anew by the next step -/
theorem PlayD.step {r e : Ending} (h : PlayD w wr db pb keys most mb b i D M O Q) (hc : DfOut wr db pb keys most O r D' e w5) :
    e = r ∧ ∃ O', DfIn w w5 db pb keys most D' O' ∧ MayAt w5 mb keys M Q ∧ (∀ k, O' k → ¬ Q k) := by
  obtain ⟨h1, O', h2, h3, h4⟩ := h.df.step hc
  obtain ⟨f, B, C, hm⟩ := h.may
  refine ⟨h1, O', h2, ⟨f, B, C, hm.keeps h3 (fun k hk ho => h.dis k ho hk)⟩, fun k hk hq => ?_⟩
  exact h4 k (hm.lt k hq) (fun ho => h.dis k ho hq) hk
/-- a number of the pager's turns -/
def Df.setE (D : Df) (e b : Int) : Df := ⟨{ D.P with every := e, bad := b }, D.L⟩
theorem Df.Ok.setE (h : D.Ok keys most) (e b : Int) : (D.setE e b).Ok keys most := ⟨h.per, h.nodup, h.len, h.key, h.clean, h.pages⟩
theorem PgAt.every {P : Pg} {OP : Nat → Prop} (h : PgAt w pb P OP) (e : Int) : PgAt (w.setCell ⟨pb, 3, none⟩ (.int .i64 e)) pb { P with every := e } OP := by
  obtain ⟨mb, f, wa, wc, h⟩ := h
  exact ⟨mb, f, wa, wc, h.edit ((Keeps.refl (· = pb) w).setCell (.inl rfl) _) (by rw [heap_setCell_same h.blk]; simp [pgCells]) rfl rfl rfl⟩
theorem PgAt.bad {P : Pg} {OP : Nat → Prop} (h : PgAt w pb P OP) (e : Int) : PgAt (w.setCell ⟨pb, 4, none⟩ (.int .i64 e)) pb { P with bad := e } OP := by
  obtain ⟨mb, f, wa, wc, h⟩ := h
  exact ⟨mb, f, wa, wc, h.edit ((Keeps.refl (· = pb) w).setCell (.inl rfl) _) (by rw [heap_setCell_same h.blk]; simp [pgCells]) rfl rfl rfl⟩
theorem PgAt.opb {P : Pg} {OP : Nat → Prop} (h : PgAt w pb P OP) : OP pb := by obtain ⟨_, _, _, _, h⟩ := h; exact h.opb
theorem PgAt.cells {P : Pg} {OP : Nat → Prop} (h : PgAt w pb P OP) : (∃ v, w.cell? ⟨pb, 3, none⟩ = some v) ∧ (∃ v, w.cell? ⟨pb, 4, none⟩ = some v) ∧ (∀ o, w.frozen? ⟨pb, o, none⟩ = false) ∧ w.cell? ⟨pb, 3, none⟩ = some (.int .i64 P.every) ∧ w.cell? ⟨pb, 4, none⟩ = some (.int .i64 P.bad) ∧ w.cell? ⟨pb, 5, none⟩ = some (.int .i64 (P.loads : Nat)) ∧ w.cell? ⟨pb, 6, none⟩ = some (.int .i64 (P.stores : Nat)) ∧ w.cell? ⟨pb, 7, none⟩ = some (.bool false) := by
  obtain ⟨_, _, _, _, h⟩ := h
  exact ⟨⟨_, cell_of_heap h.blk 3⟩, ⟨_, cell_of_heap h.blk 4⟩, frozen_of_heap h.blk, cell_of_heap h.blk 3, cell_of_heap h.blk 4, cell_of_heap h.blk 5, cell_of_heap h.blk 6, cell_of_heap h.blk 7⟩
theorem DfIn.pg (h : DfIn w wr db pb keys most D O) : ∃ OP, PgAt wr pb D.P OP ∧ OP pb ∧ O pb := by
  obtain ⟨⟨cb, OL, OP, h1, rfl⟩, _, _⟩ := h
  exact ⟨OP, h1.pg, h1.pg.opb, .inr (.inr h1.pg.opb)⟩
theorem DfIn.swap {P' : Pg} (h : DfIn w wr db pb keys most D O) (hk : Keeps (· = pb) wr w5) (hP : ∀ OP, PgAt wr pb D.P OP → PgAt w5 pb P' OP) (h1 : P'.per = D.P.per) (h2 : P'.loads = D.P.loads) (h3 : P'.stores = D.P.stores) : DfIn w w5 db pb keys most ⟨P', D.L⟩ O := by
  obtain ⟨⟨cb, OL, OP, hd, rfl⟩, hkp, hn⟩ := h
  have hop := hd.pg.opb
  refine ⟨⟨cb, OL, OP, ⟨?_, hd.lru.keeps hk (fun k hk2 e => hd.dis k hk2 (by rw [e]; exact hop)), hP OP hd.pg, hd.ndl, hd.ndp, hd.dis, hd.len, hd.most1, hd.keys1⟩, rfl⟩, hkp.trans' hk (fun j hj => .inr (by rw [hj]; exact hn _ (.inr (.inr hop)))), hn⟩
  show w5.heap[db]? = some (.cells (dfCells keys P'.per most pb cb P'.loads P'.stores) 102 (0, 0))
  rw [h1, h2, h3]
  exact hk.heap hd.blk (fun e => hd.ndp (by rw [e]; exact hop))
theorem PlayD.setE (h : PlayD w wr db pb keys most mb b i D M O Q) (e bd : Int) :
    PlayD w ((wr.setCell ⟨pb, 3, none⟩ (.int .i64 e)).setCell ⟨pb, 4, none⟩ (.int .i64 bd)) db pb keys most mb b i (D.setE e bd) M O Q := by
  have k1 := (Keeps.refl (· = pb) wr).setCell (p := ⟨pb, 3, none⟩) (.inl rfl) (.int .i64 e)
  have k2 := (Keeps.refl (· = pb) (wr.setCell ⟨pb, 3, none⟩ (.int .i64 e))).setCell (p := ⟨pb, 4, none⟩) (.inl rfl) (.int .i64 bd)
  obtain ⟨OP, _, _, ho⟩ := h.df.pg
  have h1 := (h.df.swap (P' := { D.P with every := e }) k1 (fun OP h => h.every e) rfl rfl rfl).swap (P' := { D.P with every := e, bad := bd }) k2 (fun OP h => h.bad bd) rfl rfl rfl
  exact ⟨h1, h.may.keeps (k1.trans k2) (fun k hk e => h.dis k (by rw [e]; exact ho) hk), h.dis, h.new, h.ok.setE e bd, ⟨h.lt.calls, h.lt.loads, h.lt.stores⟩, h.cur, h.len⟩

/-- a key's row is written -/
theorem PlayD.write {W w7 : World} {k : Int} {l : List Int} {g c i' : Nat} (hd : DfIn w w5 db pb keys most D' O) (hm : MayB w5 mb keys M f B C Q) (hdis : ∀ j, O j → ¬ Q j) (hnew : ∀ j, Q j → w.heap.size ≤ j)
    (hok : D'.Ok keys most) (hlt : D'.P.Lt b) (hk0 : 0 ≤ k) (hk1 : k < keys) (hW : Keeps (fun j => k < keys ∧ j = B k) w5 W) (hrow : RowAt W 30 1 (some ⟨g, 0, none⟩) l.length c (ncells l)) (hg : (k < keys ∧ g = B k) ∨ w5.heap.size ≤ g)
    (hm7 : MapB w7 mb (mset k (.slice (some ⟨g, 0, none⟩) l.length c) f)) (hk7 : Keeps (· = mb) W w7) (hcur : ∀ j, 0 ≤ j → j < keys → D'.cur j ∈ updM M k l j) (hlen : ∀ j, (updM M k l j).length ≤ i' + 1) :
    PlayD w w7 db pb keys most mb b i' D' (updM M k l) O (fun j => Q j ∨ j = g) := by
  have hp := hm.put (keys' := keys) hk0 hk1 (Int.le_refl _) (fun j hj => .inr hj) hW hrow hg hm7 hk7
  have hQk : Q (B k) := (hm.row k hk0 hk1).2.2
  have hnm : ¬ O mb := fun h => hdis _ h hm.own
  refine ⟨⟨(hd.df.keeps hW (fun j hj e => hdis j hj (by rw [e.2]; exact hQk))).keeps hk7 (fun j hj e => hnm (by rw [← e]; exact hj)), (hd.keep.trans' hW (fun j hj => .inr (by rw [hj.2]; exact hnew _ hQk))).trans' hk7 (fun j hj => .inr (by rw [hj]; exact hnew _ hm.own)), hd.new⟩, ⟨_, _, _, hp⟩, fun j hj hq => ?_, fun j hj => ?_, hok, hlt, hcur, hlen⟩
  · rcases hq with hq | hq
    · exact hdis j hj hq
    · rcases hg with ⟨_, hg⟩ | hg
      · exact hdis j hj (by rw [hq, hg]; exact hQk)
      · have := hd.df.lt hj; omega
  · rcases hj with hj | hj
    · exact hnew j hj
    · rcases hg with ⟨_, hg⟩ | hg
      · rw [hj, hg]; exact hnew _ hQk
      · have := hd.keep.size; omega
/-! ### the numbers of errors -/
def Code (c : Int) : Prop := c = 0 ∨ c = 200 ∨ c = 201
theorem code_store (D : Df) (n : Int) : Code (D.store n).1 := by
  unfold Df.store
  split
  · exact .inr (.inl rfl)
  · split
    · exact .inr (.inr rfl)
    · exact .inl rfl
theorem code_put (D : Df) (x : Ent) : Code (D.put most x).1 := by
  unfold Df.put
  split
  · split
    · exact .inl rfl
    · exact code_store D _
  · exact .inl rfl
theorem code_set (D : Df) (k n : Int) : Code (D.set most k n).1 := by
  unfold Df.set
  split
  · exact .inl rfl
  · exact code_put D _
theorem code_get (D : Df) (k : Int) : Code (D.getC most k) := by
  unfold Df.getC
  split
  · exact .inl rfl
  · split
    · exact .inr (.inl rfl)
    · exact code_put D.loaded _
theorem code_flush : ∀ (l : List Ent) (D : Df), Code (Df.flush l D).1
  | [], _ => .inl rfl
  | x :: r, D => by
    rw [Df.flush]
    split
    · split
      · exact code_flush r _
      · exact code_store D _
    · exact code_flush r D
end Go.Proofs.Ytnickcjkipemmaa
