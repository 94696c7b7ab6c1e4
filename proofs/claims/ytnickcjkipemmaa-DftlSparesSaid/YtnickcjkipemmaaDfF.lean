/- store: a page is brought -/
import Derived.Test.YtnickcjkipemmaaDfE
namespace Go.Proofs.Ytnickcjkipemmaa
open Go.RowKit

def putK (per : Nat) (l : List Int) (e : Ent) : List Int := l.set (e.key % (per : Int)).toNat e.val
theorem putK_len (per : Nat) : ∀ (M : List Ent) (l : List Int), (M.foldl (putK per) l).length = l.length
  | [], _ => rfl
  | x :: r, l => by rw [List.foldl_cons, putK_len per r]; simp [putK]
theorem fold_get {per : Nat} {n : Int} (hp : 0 < per) : ∀ (M : List Ent) (l : List Int), l.length = per → (M.map (·.key)).Nodup → (∀ e ∈ M, e.key / (per : Int) = n) → ∀ i, i < per →
    (M.foldl (putK per) l)[i]? = some (match lget (n * (per : Int) + (i : Int)) M with | some e => e.val | none => l.getD i 0)
  | [], l, hl, _, _, i, hi => by
    rw [List.foldl_nil]
    simp only [lget]
    rw [List.getD_eq_getElem?_getD, List.getElem?_eq_getElem (by omega)]; rfl
  | x :: r, l, hl, hn, hk, i, hi => by
    rw [List.map_cons, List.nodup_cons] at hn
    have hp' : (0 : Int) < (per : Int) := by omega
    rw [List.foldl_cons, fold_get hp r (putK per l x) (by simp [putK, hl]) hn.2 (fun e he => hk e (List.mem_cons_of_mem _ he)) i hi, lget]
    have hx := hk x (by simp)
    have e1 := Int.mul_ediv_add_emod x.key (per : Int)
    have e2 := Int.emod_nonneg x.key (Int.ne_of_gt hp')
    have e3 := Int.emod_lt_of_pos x.key hp'
    rw [hx, Int.mul_comm] at e1
    by_cases hxk : x.key = n * (per : Int) + (i : Int)
    · rw [if_pos hxk]
      have hnone : lget (n * (per : Int) + (i : Int)) r = none := lget_none_iff.2 (lhas_false.2 (by rw [← hxk]; exact hn.1))
      rw [hnone]
      simp only
      unfold putK
      rw [List.getD_eq_getElem?_getD, List.getElem?_set, if_pos (by omega), if_pos (by omega)]; rfl
    · rw [if_neg hxk]
      cases lget (n * (per : Int) + (i : Int)) r with
      | some e => rfl
      | none =>
        simp only
        unfold putK
        rw [List.getD_eq_getElem?_getD, List.getElem?_set, if_neg (by omega), List.getD_eq_getElem?_getD]
/-- what is brought is the page -/
theorem page_fold {D : Df} {n : Int} {M : List Ent} (hp : 0 < D.P.per) (hn : (D.L.map (·.key)).Nodup) (hl : (D.P.pages n).length = D.P.per) (hM : CleanOf (n * (D.P.per : Int)) ((n + 1) * (D.P.per : Int)) D.L M) :
    M.foldl (putK D.P.per) (D.P.pages n) = D.page n := by
  have hp' : (0 : Int) < (D.P.per : Int) := by omega
  have hmem : ∀ e, e ∈ M ↔ e ∈ D.L ∧ e.dirty = true ∧ e.key / (D.P.per : Int) = n := by
    intro e
    rw [hM.1.mem_iff]
    unfold lpick
    rw [List.mem_filter]
    unfold inR
    simp only [Bool.and_eq_true, decide_eq_true_eq]
    have := in_page (k := e.key) (n := n) hp'
    constructor
    · rintro ⟨a, ⟨b, c⟩, d⟩
      exact ⟨a, b, this.1 ⟨c, d⟩⟩
    · rintro ⟨a, b, c⟩
      have := this.2 c
      exact ⟨a, ⟨b, this.1⟩, this.2⟩
  have hMn : (M.map (·.key)).Nodup := by
    have : ((lpick (n * (D.P.per : Int)) ((n + 1) * (D.P.per : Int)) D.L).map (·.key)).Nodup := hn.sublist ((List.filter_sublist).map _)
    exact ((hM.1.map (·.key)).nodup_iff).2 this
  apply List.ext_getElem?
  intro i
  by_cases hi : i < D.P.per
  · rw [fold_get hp M _ hl hMn (fun e he => ((hmem e).1 he).2.2) i hi]
    have hpg := D.page_get (n := n) hi
    rw [List.getD_eq_getElem?_getD, List.getElem?_eq_getElem (by rw [D.page_len]; exact hi), Option.getD_some] at hpg
    rw [List.getElem?_eq_getElem (by rw [D.page_len]; exact hi), hpg]
    congr 1
    have hq : (n * (D.P.per : Int) + (i : Int)) / (D.P.per : Int) = n := (in_page hp').1 ⟨by omega, by rw [Int.add_mul]; omega⟩
    cases hg : lget (n * (D.P.per : Int) + (i : Int)) D.L with
    | some e =>
      have he := lget_mem hg
      simp only
      cases hd : e.dirty with
      | true =>
        have hm : e ∈ M := (hmem e).2 ⟨he.1, hd, by rw [he.2]; exact hq⟩
        rw [← he.2, lget_of_mem hMn hm]
        rfl
      | false =>
        have : lget (n * (D.P.per : Int) + (i : Int)) M = none := by
          cases hg2 : lget (n * (D.P.per : Int) + (i : Int)) M with
          | none => rfl
          | some y =>
            have hy := lget_mem hg2
            have hyl := (hmem y).1 hy.1
            have e1 := lget_of_mem hn hyl.1
            rw [hy.2, hg] at e1
            cases e1
            rw [hd] at hyl; cases hyl.2.1
        rw [this]
        rfl
    | none =>
      have : lget (n * (D.P.per : Int) + (i : Int)) M = none := by
        cases hg2 : lget (n * (D.P.per : Int) + (i : Int)) M with
        | none => rfl
        | some y =>
          have hy := lget_mem hg2
          have hyl := (hmem y).1 hy.1
          have e1 := lget_of_mem hn hyl.1
          rw [hy.2, hg] at e1
          cases e1
      rw [this]
  · rw [List.getElem?_eq_none (by rw [putK_len]; omega), List.getElem?_eq_none (by rw [D.page_len]; omega)]
theorem foldl_snoc {per : Nat} {l : List Int} {M : List Ent} {j : Nat} (h : j < M.length) : (M.take (j + 1)).foldl (putK per) l = putK per ((M.take j).foldl (putK per) l) (M.getD j ent0) := by
  rw [take_snoc h, List.foldl_append]; rfl

theorem Keeps.oldS {S : Nat → Prop} {w w' : World} (h : Keeps (fun j => S j ∨ w.heap.size ≤ j) w w') : Keeps S w w' :=
  ⟨h.os, h.tape, h.output, h.size, fun i hi hn => h.block i hi (fun hk => hk.elim hn (fun h => by omega))⟩
variable {w w' : World} {db pb cb : Nat} {keys most : Int} {D D' : Df} {O OL OP T : Nat → Prop}
set_option maxHeartbeats 4000000 in
set_option maxRecDepth 100000 in
theorem dstore_load (h : DfAt w db pb keys most D O) (n : Int) (hb : D.P.Lt 100000000) (hf : D.P.fails = true) :
    Calls Try.prog 57 #[.pointer (some ⟨db, 0, none⟩), .int .i64 n] w (DfOut w db pb keys most O (tornE 200) D.loaded) := by
  have hL := Lib.hid (dload_bad h n hb hf)
  clear h hb hf
  go_enter Try.func57, Try.ntmps57
  go_wp2_with fail
  refine (hL.out).mono ?_
  rintro e w2 ⟨rfl, hE⟩
  exact ⟨rfl, rfl, hE⟩
set_option maxHeartbeats 4000000 in
set_option maxRecDepth 100000 in
theorem dstore_walk (h : DfAt w db pb keys most D O) (n : Int) (hn0 : 0 ≤ n) (hn1 : n ≤ 4096) (hnd : (D.L.map (·.key)).Nodup) (hb : D.P.Lt 100000000) (hf : D.P.fails = false) :
    Calls Try.prog 57 #[.pointer (some ⟨db, 0, none⟩), .int .i64 n] w
      (if D.P.loaded.fails = true then DfOut w db pb keys most O (tornE 201) ⟨D.P.loaded.storeBad, D.L⟩ else DfOut w db pb keys most O (.returned (.tuple #[])) ⟨D.P.loaded.stored n (D.page n), lclr (n * (D.P.per : Int)) ((n + 1) * (D.P.per : Int)) D.L⟩) := by
  have hL := Lib.hid (dload_ok h n hb hf)
  obtain ⟨Q, hQ⟩ : ∃ Q : Ending → World → Prop, (if D.P.loaded.fails = true then DfOut w db pb keys most O (tornE 201) ⟨D.P.loaded.storeBad, D.L⟩ else DfOut w db pb keys most O (.returned (.tuple #[])) ⟨D.P.loaded.stored n (D.page n), lclr (n * (D.P.per : Int)) ((n + 1) * (D.P.per : Int)) D.L⟩) = Q := ⟨_, rfl⟩
  rw [hQ]
  have hQ' := Lib.hid hQ
  have hper : 1 ≤ D.P.per ∧ D.P.per ≤ 1024 := by obtain ⟨_, _, _, h, _⟩ := h; exact h.pg.per
  have hplen : (D.P.pages n).length = D.P.per := by obtain ⟨_, _, _, h, _⟩ := h; exact h.pg.len n
  have hOlt := Lib.hid (fun k (hk : O k) => h.lt hk)
  have hb' := Lib.hid hb
  have hnd' := Lib.hid hnd
  obtain ⟨lo, hlo⟩ : ∃ lo : Int, n * (D.P.per : Int) = lo := ⟨_, rfl⟩
  obtain ⟨hi, hhi⟩ : ∃ hi : Int, (n + 1) * (D.P.per : Int) = hi := ⟨_, rfl⟩
  have hlo0 : 0 ≤ lo := by rw [← hlo]; exact Int.mul_nonneg hn0 (by omega)
  have hhi0 : hi = lo + D.P.per := by rw [← hhi, ← hlo, Int.add_mul, Int.one_mul]
  have hlo1 : lo ≤ 4194304 := by
    rw [← hlo]
    exact Int.le_trans (Int.mul_le_mul hn1 (show (D.P.per : Int) ≤ 1024 by omega) (by omega) (by omega)) (by decide)
  have hw0 : IntKind.i64.wrap (n * (D.P.per : Int)) = lo := by rw [hlo]; exact wrap_small (by omega) (by omega)
  have hw1 : IntKind.i64.wrap (n + 1) = n + 1 := wrap_small (by omega) (by omega)
  have hw2 : IntKind.i64.wrap ((n + 1) * (D.P.per : Int)) = hi := by rw [hhi]; exact wrap_small (by omega) (by omega)
  have hlo' := Lib.hid hlo
  have hhi' := Lib.hid hhi
  have hhi0' := Lib.hid hhi0
  clear h hb hf hQ hnd hlo hhi hhi0
  go_enter Try.func57, Try.ntmps57
  go_wp2_with fail
  refine (hL.out).mono ?_
  rintro e w1 ⟨g, rfl, hN, hg, ⟨cb, OL, OP, h1, rfl⟩, hk1⟩
  have c2 : w1.cell? ⟨db, 2, none⟩ = some (.int .i64 (D.P.per : Nat)) := cell_of_heap h1.blk 2
  have c4 : w1.cell? ⟨db, 4, none⟩ = some (.pointer (some ⟨cb, 0, none⟩)) := cell_of_heap h1.blk 4
  have hC := Lib.hid (cleanX (lo := lo) (hi := hi) (h1.lru.nil ((Keeps.refl Nil w1).drew)) (by have a1 := h1.len; have a2 := h1.most1; show D.L.length ≤ 1000000; have : ((D.loaded.L.length : Nat) : Int) = (D.L.length : Nat) := rfl; omega))
  have hT := Lib.hid (show ∀ W, Keeps OL w1.drew W → W.cell? ⟨db, 2, none⟩ = some (.int .i64 (D.P.per : Nat)) ∧ W.cell? ⟨db, 4, none⟩ = some (.pointer (some ⟨cb, 0, none⟩)) from fun W hW => ⟨hW.cell c2 h1.ndl, hW.cell c4 h1.ndl⟩)
  have h1' := Lib.hid h1
  have hN' := Lib.hid hN
  have hk1' := Lib.hid hk1
  clear h1 hN hk1
  go_wp2_with fail
  go_region_held3 (fun W => W.cell? ⟨db, 2, none⟩ = some (.int .i64 (D.P.per : Nat)) ∧ W.cell? ⟨db, 4, none⟩ = some (.pointer (some ⟨cb, 0, none⟩))) (first | exact ⟨c2, c4⟩ | exact hT.out _ (Keeps.refl _ _) | exact hT.out _ hk5'.out) ((go_at_call 20; refine (hC.out).mono ?_; rintro e w2 ⟨M, ma, mcap, rfl, hCl, hrow, hge, hL2, hk5⟩; have hk5' := Lib.hid hk5; have hCl' := Lib.hid hCl; have hrow' := Lib.hid hrow; have hge' := Lib.hid hge; have hL2' := Lib.hid hL2; clear hk5 hCl hrow hge hL2))
  obtain ⟨c2', c4'⟩ := ‹w2.cell? ⟨db, 2, none⟩ = some (.int .i64 (D.P.per : Nat)) ∧ w2.cell? ⟨db, 4, none⟩ = some (.pointer (some ⟨cb, 0, none⟩))›
  obtain ⟨row0, hrow0⟩ : ∃ l, D.P.pages n = l := ⟨_, rfl⟩
  rw [hrow0] at hN' hplen
  have hrow0' := Lib.hid hrow0
  have hg2 := Lib.hid (show ¬ down db OL OP g ∧ g < w1.heap.size from ⟨fun h => by have := hOlt.out g h; omega, lt_of_heap hN'.out⟩)
  have hgm := Lib.hid (show ∀ b, blk ma = some b → ¬ b = g from fun b hb e => by have a1 := hge'.out b hb; have a2 := hg2.out.2; have : w1.drew.heap.size = w1.heap.size := rfl; omega)
  have hMl : M.length ≤ 1000 := by
    have a1 := hCl'.out.1.length_eq
    have a2 := List.length_filter_le (inR lo hi) D.loaded.L
    have a3 := h1'.out.len
    have a4 := h1'.out.most1
    unfold lpick at a1
    omega
  have hN2 := Lib.hid (NumB.keeps (T := OL) (w' := w2) (hN'.out.keeps ((Keeps.refl Nil w1).drew) (fun h => h)) hk5'.out (fun h => hg2.out.1 (.inr (.inl h))))
  clear hrow0
  go_wp2_with fail
  go_loopw [32, 7] (fun i _ wr => ∃ k : Nat, k ≤ M.length ∧ i = .int .i64 k ∧ NumB wr g ((M.take k).foldl (putK D.P.per) row0) ∧ Keeps (· = g) w2 wr) (fun i _ _ => M.length - (intOf i).toNat)
  case atStart => exact ⟨0, Nat.zero_le _, rfl, hN2.out, Keeps.refl _ _⟩
  case round =>
    obtain ⟨k, hk, rfl, hNk, hK⟩ := hrel
    by_cases hlt : k < M.length
    · obtain ⟨gm, rfl, hent⟩ := EntRow.at' (RowAt.keeps hrow'.out hK (fun b hb => hgm.out b hb)) hlt
      obtain ⟨x, hx⟩ : ∃ x, M.getD k ent0 = x := ⟨_, rfl⟩
      have hfs := Lib.hid (foldl_snoc (per := D.P.per) (l := row0) hlt)
      have hxm : x ∈ lpick lo hi D.loaded.L := hCl'.out.1.mem_iff.1 (by rw [← hx, List.getD_eq_getElem?_getD, List.getElem?_eq_getElem hlt]; exact List.getElem_mem hlt)
      rw [hx] at hent hfs
      clear hx
      have hxr := (List.mem_filter.1 hxm).2
      unfold inR at hxr
      simp only [Bool.and_eq_true, decide_eq_true_eq] at hxr
      have hx0 : 0 ≤ x.key := by have := hxr.1.2; omega
      have hx1 : x.key ≤ 5000000 := by have a1 := hxr.2; have a2 := hhi0'.out; omega
      have c0 : wr.cell? ⟨gm, k * 3, none⟩ = some (.int .i64 x.key) := hent.key
      have c1 : wr.cell? ⟨gm, k * 3 + 1, none⟩ = some (.int .u64 x.val) := hent.val
      have c2 : wr.cell? ⟨gm, k * 3 + 2, none⟩ = some (.bool x.dirty) := hent.dirty
      obtain ⟨d1, d2, d3⟩ := div_bounds (k := x.key) hper.1
      obtain ⟨r, hr⟩ : ∃ r : Nat, x.key % (D.P.per : Int) = (r : Nat) := ⟨(x.key % (D.P.per : Int)).toNat, by omega⟩
      have hrl : r < D.P.per := by omega
      have hp0 : ¬ D.P.per = 0 := by omega
      have htm : x.key.tmod (D.P.per : Int) = (r : Int) := by rw [Int.tmod_eq_emod_of_nonneg hx0, hr]
      have hwr : IntKind.i64.wrap (r : Int) = (r : Int) := wrap_small (by omega) (by omega)
      obtain ⟨W1, hW1⟩ : ∃ W1, wr.alloc (.cells #[.int .i64 x.key, .int .u64 x.val, .bool x.dirty] 32) = W1 := ⟨_, rfl⟩
      have s1 : Keeps Nil wr W1 := by rw [← hW1]; exact (Keeps.refl Nil wr).alloc _
      have t0 : W1.cell? ⟨wr.heap.size, 0, none⟩ = some (.int .i64 x.key) := by rw [← hW1]; simp [go_sem]
      have t1 : W1.cell? ⟨wr.heap.size, 1, none⟩ = some (.int .u64 x.val) := by rw [← hW1]; simp [go_sem]
      have hN1 := hNk.keeps s1 (fun h => h)
      have fz := frozen_of_heap hN1
      have cg : W1.cell? ⟨g, r, none⟩ = some (.int .u64 (((M.take k).foldl (putK D.P.per) row0).getD r 0)) := by rw [cell_of_heap hN1]; exact ncells_get (by rw [putK_len]; omega)
      have hgl := lt_of_heap hNk
      have ngw : ¬ wr.heap.size = g := by omega
      have cdb : W1.cell? ⟨db, 2, none⟩ = some (.int .i64 (D.P.per : Nat)) := s1.cell (hK.cell (by assumption) (fun e => hg2.out.1 (.inl e.symm))) (fun h => h)
      have hT1 := Lib.hid (show ∀ W, Keeps (· = g) W1 W → W.cell? ⟨db, 2, none⟩ = some (.int .i64 (D.P.per : Nat)) ∧ W.cell? ⟨wr.heap.size, 0, none⟩ = some (.int .i64 x.key) ∧ W.cell? ⟨wr.heap.size, 1, none⟩ = some (.int .u64 x.val) from
        fun W hW => ⟨hW.cell cdb (fun e => hg2.out.1 (.inl e.symm)), hW.cell t0 ngw, hW.cell t1 ngw⟩)
      have hE := Lib.hid (show NumB (W1.setCell ⟨g, r, none⟩ (.int .u64 x.val)).drew g ((M.take (k + 1)).foldl (putK D.P.per) row0) ∧ Keeps (· = g) w2 (W1.setCell ⟨g, r, none⟩ (.int .u64 x.val)).drew from
        ⟨by rw [hfs.out]; unfold putK; rw [show (x.key % (D.P.per : Int)).toNat = r by omega]; exact (hN1.set r x.val).keeps ((Keeps.refl Nil _).drew) (fun h => h), ((hK.trans (s1.mono (fun _ h => h.elim))).setCell (.inl rfl) _).drew⟩)
      have hW1' := Lib.hid hW1
      clear hW1 d1 d2 d3 hr hK hNk hN1 hent hxm s1 hxr
      go_wp2_with fail
      rw [hW1'.out]
      go_region_held3 (fun W => W.cell? ⟨db, 2, none⟩ = some (.int .i64 (D.P.per : Nat)) ∧ W.cell? ⟨wr.heap.size, 0, none⟩ = some (.int .i64 x.key) ∧ W.cell? ⟨wr.heap.size, 1, none⟩ = some (.int .u64 x.val)) (first | exact ⟨cdb, t0, t1⟩ | exact hT1.out _ (((Keeps.refl (· = g) W1).setCell (.inl rfl) _).drew)) (fail)
      go_wp2_with fail
      go_roundw
      case rel => exact ⟨k + 1, by omega, by go_num, hE.out⟩
      case measure => simp [intOf]; omega
    · have e : M.take k = M := List.take_of_length_le (by omega)
      rw [e] at hNk
      have hpf : M.foldl (putK D.P.per) row0 = D.page n := by
        rw [← hrow0'.out]
        exact page_fold (by omega) hnd'.out (by rw [hrow0'.out]; exact hplen) (by rw [hlo'.out, hhi'.out]; exact hCl'.out)
      rw [hpf] at hNk
      -- the map behind the loop
      have hK1 : Keeps (fun j => OL j ∨ j = g) w1 wr := (((Keeps.refl _ w1).drew).trans (hk5'.out.mono (fun _ h => Or.inl h))).trans (hK.mono (fun _ h => Or.inr h))
      have hdb := hK1.heap h1'.out.blk (fun h => h.elim h1'.out.ndl (fun e => hg2.out.1 (.inl e.symm)))
      have hpg := h1'.out.pg.keeps hK1 (fun k hk h => h.elim (fun h => h1'.out.dis k h hk) (fun e => hg2.out.1 (.inr (.inr (by rw [← e]; exact hk)))))
      have hlru := hL2'.out.keeps hK (fun k hk e => hg2.out.1 (.inr (.inl (by rw [← e]; exact hk))))
      have cs : wr.cell? ⟨db, 6, none⟩ = some (.int .i64 (D.P.stores : Nat)) := cell_of_heap hdb 6
      have fd := frozen_of_heap hdb
      have hbs := hb'.out.stores
      have hSt := (Keeps.refl (· = db) wr).setCell (p := ⟨db, 6, none⟩) (.inl rfl) (.int .i64 ((D.P.stores : Int) + 1))
      have hb6 := heap_setCell_same hdb 6 (.int .i64 ((D.P.stores : Int) + 1))
      have cp : (wr.setCell ⟨db, 6, none⟩ (.int .i64 ((D.P.stores : Int) + 1))).cell? ⟨db, 0, none⟩ = some (.iface 61 (.pointer (some ⟨pb, 0, none⟩))) := by rw [cell_of_heap hb6]; rfl
      have cc : (wr.setCell ⟨db, 6, none⟩ (.int .i64 ((D.P.stores : Int) + 1))).cell? ⟨db, 4, none⟩ = some (.pointer (some ⟨cb, 0, none⟩)) := by rw [cell_of_heap hb6]; rfl
      have hpg6 := hpg.keeps hSt (fun k hk e => h1'.out.ndp (by rw [← e]; exact hk))
      have hN6 := hNk.keeps hSt (fun e => hg2.out.1 (.inl e))
      have hms := meth_store
      have hblk6 : (wr.setCell ⟨db, 6, none⟩ (.int .i64 ((D.P.stores : Int) + 1))).heap[db]? = some (.cells (dfCells keys D.P.per most pb cb (D.P.loads + 1) (D.P.stores + 1)) 102 (0, 0)) := by rw [hb6]; rfl
      have hlru6 := hlru.keeps hSt (fun k hk e => h1'.out.ndl (by rw [← e]; exact hk))
      have hKK : Keeps (fun j => down db OL OP j ∨ w.heap.size ≤ j) w (wr.setCell ⟨db, 6, none⟩ (.int .i64 ((D.P.stores : Int) + 1))) :=
        ((hk1'.out.mono (fun _ h => Or.inl h)).trans (hK1.mono (fun j h => h.elim (fun h => .inl (.inr (.inl h))) (fun e => .inr (by rw [e]; exact hg))))).trans (hSt.mono (fun j h => .inl (.inl h)))
      have hKK' := Lib.hid hKK
      by_cases hf2 : D.P.loaded.fails = true
      · have hS := Lib.hid (store_bad hpg6 n (.slice (some ⟨g, 0, none⟩) D.P.per D.P.per) (hb'.out.loaded.mono (by decide)) hf2)
        have hq := hQ'.out
        rw [if_pos hf2] at hq
        have hmn := Lib.hid (show ∀ b, blk ma = some b → ¬ down db OL OP b ∧ ¬ b = g from fun b hb => ⟨fun h => by
          have a1 := hge'.out b hb
          have a2 := hOlt.out b h
          have a3 := hk1'.out.size
          have : w1.drew.heap.size = w1.heap.size := rfl
          omega, hgm.out b hb⟩)
        have hrow6 := Lib.hid (RowAt.keeps (RowAt.keeps hrow'.out hK (fun b hb => hgm.out b hb)) hSt (fun b hb e => (hmn.out b hb).1 (.inl e)))
        have hlru6' := Lib.hid hlru6
        have hblk6' := Lib.hid hblk6
        have hll : (lclr lo hi D.loaded.L).length = D.L.length := lclr_len lo hi D.loaded.L
        have hl1 := h1'.out.len
        have hl2 := h1'.out.most1
        have hlL : D.loaded.L.length = D.L.length := rfl
        have hcc := Lib.hid cc
        have hmark : markL M (lclr lo hi D.loaded.L) = D.L := mark_clr hCl'.out hnd'.out
        have hmark' := Lib.hid hmark
        clear hmark cc hrow0' hpf hN6 hNk hK1 hdb hpg hlru hSt hb6 hpg6 hblk6 hlru6 hKK hK e hf2
        go_wp2_with fail
        refine (hS.out).mono ?_
        rintro e w5 ⟨rfl, hP5, hk6⟩
        have c5 := hk6.cell hcc.out h1'.out.ndp
        have hAg := Lib.hid (again_any (db := db) (L := lclr lo hi D.loaded.L) c5 (hlru6'.out.keeps hk6 h1'.out.dis) h1'.out.ndl (RowAt.keeps hrow6.out hk6 (fun b hb h => (hmn.out b hb).1 (.inr (.inr h)))) (fun b hb h => (hmn.out b hb).1 (.inr (.inl h))) (by omega) (by omega) hMl hl2.1)
        rw [hmark'.out] at hAg
        have hP5' := Lib.hid hP5
        have hk6' := Lib.hid hk6
        clear hP5 hk6 c5
        go_wp2_with fail
        refine (hAg.out).mono ?_
        rintro e w6 ⟨rfl, O6, hL6, hk7, hg7⟩
        have hk7' := Lib.hid hk7
        have hL6' := Lib.hid hL6
        have hg7' := Lib.hid hg7
        clear hk7 hL6 hg7
        go_wp2_with fail
        rw [← hq]
        have hlt5 := hP5'.out.lt
        have hs5 := (hKK'.out.oldS.size : _ ≤ _)
        have hs6 := hk6'.out.size
        have hdb5 := hk6'.out.heap hblk6'.out h1'.out.ndp
        have ndb : ¬ O6 db := fun h => (hg7'.out db h).elim h1'.out.ndl (fun e => by have := lt_of_heap hdb5; omega)
        refine ⟨rfl, rfl, down db O6 OP, ⟨cb, O6, OP, ⟨hk7'.out.heap hdb5 h1'.out.ndl, hL6'.out, hP5'.out.keeps hk7'.out (fun k hk h => h1'.out.dis k h hk), ndb, h1'.out.ndp, fun k hk hp => ?_, hl1, h1'.out.most1, h1'.out.keys1⟩, rfl⟩, ?_, fun k hk => ?_⟩
        · rcases hg7'.out k hk with h | h
          · exact h1'.out.dis k h hp
          · have := hlt5 k hp; omega
        · exact (((hKK'.out.trans (hk6'.out.mono (fun j h => Or.inl (.inr (.inr h))))).trans (hk7'.out.mono (fun j h => Or.inl (.inr (.inl h)))))).oldS
        · rcases hk with h | h | h
          · exact .inl (.inl h)
          · rcases hg7'.out k h with h | h
            · exact .inl (.inr (.inl h))
            · exact .inr ⟨by omega, h.2⟩
          · exact .inl (.inr (.inr h))
      · have hf3 : D.P.loaded.fails = false := by simpa using hf2
        have hS := Lib.hid (store_ok hpg6 n hN6 (D.page_len n) (fun h => hg2.out.1 (.inr (.inr h))) (hb'.out.loaded.mono (by decide)) hf3)
        have hq := hQ'.out
        rw [if_neg hf2] at hq
        have hlru6' := Lib.hid hlru6
        have hblk6' := Lib.hid hblk6
        have hlo'' := hlo'.out
        clear cc hrow0' hpf hN6 hNk hK1 hdb hpg hlru hSt hb6 hpg6 hblk6 hlru6 hKK hK e hf2 hf3 hlo''
        go_wp2_with fail
        refine (hS.out).mono ?_
        rintro e w5 ⟨rfl, O6, hP5, hk6, hg6⟩
        have hP5' := Lib.hid hP5
        have hk6' := Lib.hid hk6
        have hg6' := Lib.hid hg6
        clear hP5 hk6 hg6
        go_wp2_with fail
        go_end0
        rw [← hq]
        have hlt6 : ∀ k, down db OL OP k → k < (wr.setCell ⟨db, 6, none⟩ (.int .i64 ((D.P.stores : Int) + 1))).heap.size := fun k hk => Nat.lt_of_lt_of_le (hOlt.out k hk) hKK'.out.oldS.size
        have hs5 := (hKK'.out.oldS.size : _ ≤ _)
        refine ⟨rfl, down db OL O6, ⟨cb, OL, O6, ⟨hk6'.out.heap hblk6'.out h1'.out.ndp, ?_, hP5'.out, h1'.out.ndl, fun h => ?_, fun k hk hp => ?_, ?_, h1'.out.most1, h1'.out.keys1⟩, rfl⟩, ?_, fun k hk => ?_⟩
        · show LruX w5 cb most (lclr (n * (D.P.per : Int)) ((n + 1) * (D.P.per : Int)) D.L) OL
          rw [hlo'.out, hhi'.out]
          exact hlru6'.out.keeps hk6'.out h1'.out.dis
        · rcases hg6'.out db h with h | h
          · exact h1'.out.ndp h
          · have := hlt6 db (.inl rfl); omega
        · rcases hg6'.out k hp with h | h
          · exact h1'.out.dis k hk h
          · have := hlt6 k (.inr (.inl hk)); omega
        · show ((lclr _ _ D.L).length : Int) ≤ most
          rw [lclr_len]; exact h1'.out.len
        · exact (hKK'.out.trans (hk6'.out.mono (fun j h => Or.inl (.inr (.inr h))))).oldS
        · rcases hk with h | h | h
          · exact .inl (.inl h)
          · exact .inl (.inr (.inl h))
          · rcases hg6'.out k h with h | h
            · exact .inl (.inr (.inr h))
            · exact .inr ⟨by omega, h.2⟩
end Go.Proofs.Ytnickcjkipemmaa
