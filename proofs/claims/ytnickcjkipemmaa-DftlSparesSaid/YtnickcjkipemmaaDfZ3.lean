/- DftlSpares: the state of the play -/
import Derived.Test.YtnickcjkipemmaaDfZ2
namespace Go.Proofs.Ytnickcjkipemmaa
open Go.RowKit

theorem Try.info3n : (Try.prog.info? 3).map (fun i => (i.zero, i.size, i.bytes)) = some (some (.int .i64 0), 1, 8) := by kernel_rfl
def icells (l : List Int) : List Value := l.map (Value.int .i64)
def IRow (w : World) (a : Option Addr) (cap : Nat) (l : List Int) : Prop := RowAt w 3 1 a l.length cap (icells l)
theorem IRow.cell {w : World} {a : Option Addr} {cap : Nat} {l : List Int} (h : IRow w a cap l) {q : Nat} (hq : q < l.length) : ∃ g, a = some ⟨g, 0, none⟩ ∧ w.cell? ⟨g, q, none⟩ = some (.int .i64 (gi l q)) := by
  rcases RowAt.form h with ⟨_, h2, _⟩ | ⟨g, cur, ha, hn, hh, hs, ht⟩
  · omega
  · subst ha
    have := (RowAt.src h).2.2 ⟨g, 0, none⟩ rfl q (.int .i64 (gi l q)) (by simp [icells, gi_eq hq, hq])
    rw [Addr.add_lit, Nat.zero_add] at this
    exact ⟨g, rfl, this⟩
theorem IRow.keeps {T : Nat → Prop} {w w' : World} {a : Option Addr} {cap : Nat} {l : List Int} (h : IRow w a cap l) (hk : Keeps T w w') (hn : ∀ g, blk a = some g → ¬ T g) : IRow w' a cap l := RowAt.keeps h hk hn
/-- the state of the play: a map, what was set, what is now, the keys that were asked for -/
structure SpD (w wr : World) (db pb sb nb : Nat) (keys : Int) (mo q b i : Nat) (D : Df) (R : List Int) (S Nm : Int → Option Int) (O : Nat → Prop) (la : Option Addr) (lc : Nat) : Prop where
  df : DfIn w wr db pb keys mo D O
  set : SetB wr sb S
  now : SetB wr nb Nm
  disS : ¬ O sb
  disN : ¬ O nb
  ne : sb ≠ nb
  newS : w.heap.size ≤ sb
  newN : w.heap.size ≤ nb
  row : IRow wr la lc R.reverse
  newL : ∀ g, blk la = some g → w.heap.size ≤ g ∧ ¬ O g ∧ g ≠ sb ∧ g ≠ nb
  ok : D.Ok keys mo
  lt : D.P.Lt b
  per : D.P.per = q
  nodup : R.Nodup
  len : R.length ≤ i
  spare : Spare keys mo D R S (fun k => (Nm k).getD 0)
variable {w wr w5 : World} {db pb sb nb mo q b b' i : Nat} {keys : Int} {D D' : Df} {R : List Int} {S Nm S1 : Int → Option Int} {O T : Nat → Prop} {la : Option Addr} {lc : Nat}
theorem SpD.nil (h : SpD w wr db pb sb nb keys mo q b i D R S Nm O la lc) (hk : Keeps Nil wr w5) : SpD w w5 db pb sb nb keys mo q b i D R S Nm O la lc :=
  ⟨h.df.nil hk, h.set.keeps hk (fun h => h), h.now.keeps hk (fun h => h), h.disS, h.disN, h.ne, h.newS, h.newN, h.row.keeps hk (fun _ _ h => h), h.newL, h.ok, h.lt, h.per, h.nodup, h.len, h.spare⟩
theorem SpD.mono (h : SpD w wr db pb sb nb keys mo q b i D R S Nm O la lc) (hb : b ≤ b') : SpD w wr db pb sb nb keys mo q b' i D R S Nm O la lc :=
  ⟨h.df, h.set, h.now, h.disS, h.disN, h.ne, h.newS, h.newN, h.row, h.newL, h.ok, h.lt.mono hb, h.per, h.nodup, h.len, h.spare⟩
/-- the state behind a call of the map, ahead of what the statement notes -/
structure SpM (w wr : World) (db pb sb nb : Nat) (keys : Int) (mo q b i : Nat) (D : Df) (R R' : List Int) (S Nm : Int → Option Int) (S1 N1 : Int → Option Int) (O : Nat → Prop) (la : Option Addr) (lc : Nat) : Prop where
  df : DfIn w wr db pb keys mo D O
  set : SetB wr sb S
  now : SetB wr nb Nm
  disS : ¬ O sb
  disN : ¬ O nb
  ne : sb ≠ nb
  newS : w.heap.size ≤ sb
  newN : w.heap.size ≤ nb
  row : IRow wr la lc R.reverse
  newL : ∀ g, blk la = some g → w.heap.size ≤ g ∧ ¬ O g ∧ g ≠ sb ∧ g ≠ nb
  ok : D.Ok keys mo
  lt : D.P.Lt b
  per : D.P.per = q
  nodup : R.Nodup
  len : R.length ≤ i
  spare : Spare keys mo D R' S1 (fun k => (N1 k).getD 0)
theorem IRow.ltg {w : World} {a : Option Addr} {cap : Nat} {l : List Int} (h : IRow w a cap l) {g : Nat} (hg : blk a = some g) : g < w.heap.size := RowAt.lt h hg
theorem SpD.step {r e : Ending} {R' : List Int} {N1 : Int → Option Int} (h : SpD w wr db pb sb nb keys mo q b i D R S Nm O la lc) (hc : DfOut wr db pb keys mo O r D' e w5) (hok : D'.Ok keys mo) (hlt : D'.P.Lt b') (hper : D'.P.per = D.P.per) (hs : Spare keys mo D' R' S1 (fun k => (N1 k).getD 0)) :
    e = r ∧ ∃ O', SpM w w5 db pb sb nb keys mo q b' i D' R R' S Nm S1 N1 O' la lc ∧ (∀ k, ¬ O k → k < wr.heap.size → w5.heap[k]? = wr.heap[k]?) := by
  obtain ⟨h1, O', h2, h3, h4⟩ := h.df.step hc
  have hd : ∀ k, k < wr.heap.size → ¬ O k → ¬ O' k := fun k hk hn ho => h4 k hk hn ho
  refine ⟨h1, O', ⟨h2, h.set.keeps h3 h.disS, h.now.keeps h3 h.disN, hd _ h.set.lt h.disS, hd _ h.now.lt h.disN, h.ne, h.newS, h.newN, h.row.keeps h3 (fun g hg => (h.newL g hg).2.1), fun g hg => ⟨(h.newL g hg).1, hd _ (h.row.ltg hg) (h.newL g hg).2.1, (h.newL g hg).2.2⟩, hok, hlt, hper.trans h.per, h.nodup, h.len, hs⟩, fun k hk hkl => h3.block k hkl hk⟩
theorem SpM.nil {R' : List Int} {N1 : Int → Option Int} (h : SpM w wr db pb sb nb keys mo q b i D R R' S Nm S1 N1 O la lc) (hk : Keeps Nil wr w5) : SpM w w5 db pb sb nb keys mo q b i D R R' S Nm S1 N1 O la lc :=
  ⟨h.df.nil hk, h.set.keeps hk (fun h => h), h.now.keeps hk (fun h => h), h.disS, h.disN, h.ne, h.newS, h.newN, h.row.keeps hk (fun _ _ h => h), h.newL, h.ok, h.lt, h.per, h.nodup, h.len, h.spare⟩
/-- what was set is noted -/
theorem SpM.putS {R' : List Int} {N1 S2 : Int → Option Int} (h : SpM w wr db pb sb nb keys mo q b i D R R' S Nm S1 N1 O la lc) (hk : Keeps (· = sb) wr w5) (hs : SetB w5 sb S2) : SpM w w5 db pb sb nb keys mo q b i D R R' S2 Nm S1 N1 O la lc :=
  ⟨h.df.other hk h.newS h.disS, hs, h.now.keeps hk (fun e => h.ne e.symm), h.disS, h.disN, h.ne, h.newS, h.newN, h.row.keeps hk (fun g hg e => (h.newL g hg).2.2.1 e), h.newL, h.ok, h.lt, h.per, h.nodup, h.len, h.spare⟩
theorem SpM.putN {R' : List Int} {N1 N2 : Int → Option Int} (h : SpM w wr db pb sb nb keys mo q b i D R R' S Nm S1 N1 O la lc) (hk : Keeps (· = nb) wr w5) (hs : SetB w5 nb N2) : SpM w w5 db pb sb nb keys mo q b i D R R' S N2 S1 N1 O la lc :=
  ⟨h.df.other hk h.newN h.disN, h.set.keeps hk (fun e => h.ne e), hs, h.disS, h.disN, h.ne, h.newS, h.newN, h.row.keeps hk (fun g hg e => (h.newL g hg).2.2.2 e), h.newL, h.ok, h.lt, h.per, h.nodup, h.len, h.spare⟩
/-- the row of keys is made anew: so far -/
structure LRow (wr W : World) (a : Option Addr) (cap : Nat) (l : List Int) : Prop where
  row : IRow W a cap l
  new : ∀ g, blk a = some g → wr.heap.size ≤ g
  keep : Keeps Nil wr W
theorem LRow.add {W W1 w6 : World} {a a6 : Option Addr} {cap cap6 : Nat} {l : List Int} {x : Int} (h : LRow wr W a cap l) (hk : Keeps Nil W W1) (hr : RowAt w6 3 1 a6 (l.length + 1) cap6 (icells l ++ [.int .i64 x])) (hk6 : Keeps (fun k => blk a = some k) W1 w6) (hb : blk a6 = blk a ∨ blk a6 = some W1.heap.size ∧ W1.heap.size < w6.heap.size) :
    LRow wr w6 a6 cap6 (l ++ [x]) := by
  refine ⟨?_, fun g hg => ?_, ?_⟩
  · unfold IRow
    rw [List.length_append]
    have e : icells (l ++ [x]) = icells l ++ [.int .i64 x] := by simp [icells]
    rw [e]; exact hr
  · rcases hb with hb | ⟨hb, _⟩
    · rw [hb] at hg; exact h.new g hg
    · rw [hb] at hg; cases hg
      exact Nat.le_trans h.keep.size hk.size
  · refine (h.keep.trans hk).trans' hk6 (fun j hj => .inr (h.new j hj))
theorem SpM.fin {R' : List Int} {a : Option Addr} {cap : Nat} (h : SpM w wr db pb sb nb keys mo q b i D R R' S1 Nm S1 Nm O la lc) (hR : R'.Nodup) (hl : R'.length ≤ i + 1) (hL : LRow wr w5 a cap R'.reverse) : SpD w w5 db pb sb nb keys mo q b (i + 1) D R' S1 Nm O a cap := by
  have hk := hL.keep
  refine ⟨h.df.nil hk, h.set.keeps hk (fun h => h), h.now.keeps hk (fun h => h), h.disS, h.disN, h.ne, h.newS, h.newN, hL.row, fun g hg => ?_, h.ok, h.lt, h.per, hR, hl, h.spare⟩
  have h1 := hL.new g hg
  have h2 := h.df.keep.size
  have h3 := h.set.lt
  have h4 := h.now.lt
  refine ⟨by omega, fun ho => ?_, by omega, by omega⟩
  have := h.df.df.lt ho
  omega
/-- keys, one less: told from the row -/
theorem filter_rev (R : List Int) (k : Int) (hn : R.Nodup) : (R.reverse.filter (fun x => x != k)) ++ [k] = (k :: R.erase k).reverse := by
  rw [List.reverse_cons, List.filter_reverse, hn.erase_eq_filter]
theorem nodup_step {R : List Int} {k : Int} (hn : R.Nodup) : (k :: R.erase k).Nodup := List.nodup_cons.2 ⟨fun h => ((List.Nodup.mem_erase_iff hn).1 h).1 rfl, hn.erase k⟩
theorem filter_take {l : List Int} {k : Int} {j : Nat} (hj : j < l.length) : (l.take (j + 1)).filter (fun x => x != k) = (l.take j).filter (fun x => x != k) ++ (if gi l j == k then [] else [gi l j]) := by
  rw [List.take_add_one, List.getElem?_eq_getElem hj, List.filter_append, gi_eq hj]
  simp only [Option.toList_some]
  cases h : l[j] == k <;> simp [bne, h]
theorem held_step {R : List Int} {k : Int} {t : Nat} (ht : t < R.length) : (R.take (t + 1)).contains k = ((R.take t).contains k || (gi R.reverse (R.length - 1 - t) == k)) := by
  rw [any_drop ht]
  congr 2
  rw [gi_eq (by simp; omega), List.getElem_reverse, List.getD_eq_getElem?_getD, List.getElem?_eq_getElem ht]
  simp only [Option.getD_some]
  congr 1
  omega
end Go.Proofs.Ytnickcjkipemmaa
