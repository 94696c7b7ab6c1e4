/- Get of a key that is not there; Get -/
import Derived.Test.YtnickcjkipemmaaDfN
namespace Go.Proofs.Ytnickcjkipemmaa
open Go.RowKit

variable {w w' : World} {db pb cb : Nat} {keys most : Int} {D D' : Df} {O OL OP T : Nat → Prop}
theorem get53_any (h : DfAt w db pb keys most D O) {mv kv nv : Nat} (k : Int) (hh : lhas k D.L = false) (hm : w.cell? ⟨mv, 0, none⟩ = some (.pointer (some ⟨db, 0, none⟩)))
    (hk : w.cell? ⟨kv, 0, none⟩ = some (.int .i64 k)) (hn : w.heap[nv]? = some (.cells #[.int .u64 0] 30 (0, 0))) (hno : ¬ O nv) (hmo : ¬ O mv) (hko : ¬ O kv) (hk0 : 0 ≤ k) (hk1 : k ≤ 4096) (hb : D.P.Lt 10000000)
    (hnd : (D.L.map (·.key)).Nodup) (hkr : ∀ e ∈ D.L, 0 ≤ e.key ∧ e.key < 4096) :
    Calls Try.prog 53 #[.pointer (some ⟨mv, 0, none⟩), .pointer (some ⟨kv, 0, none⟩), .pointer (some ⟨nv, 0, none⟩)] w fun e w' => e = resE (D.getC most k) ∧ GetIn w db pb keys most O nv (D.getV most k) (D.getD most k) w' := by
  unfold Df.getC Df.getV Df.getD
  rw [hh]
  simp only [Bool.false_eq_true, if_false]
  cases hf : D.P.fails with
  | true =>
    simp only [if_true]
    exact get53_bad h k hm hk hn hno hk0 hb hf
  | false =>
    simp only [Bool.false_eq_true, if_false]
    exact get53_ok h k hm hk hn hno hmo hko hk0 hk1 hb hf hnd hkr
theorem GetIn.tried {wa w1 w5 : World} {rb nv : Nat} {v : Int} (h : GetIn wa db pb keys most O nv v D' w1) (hr : Keeps (· = rb) w1 w5) (hn : ¬ O rb) (hrb : rb < wa.heap.size) (hne : nv ≠ rb) :
    ∃ O', DfAt w5 db pb keys most D' O' ∧ Keeps (fun k => (O k ∨ k = nv) ∨ k = rb) wa w5 ∧ Grow O O' wa w5 ∧ w5.heap[nv]? = some (.cells #[.int .u64 v] 30 (0, 0)) := by
  obtain ⟨O', h1, h2, h3, h4⟩ := h
  have hn' : ¬ O' rb := fun h => (h3 _ h).elim hn (fun e => by omega)
  refine ⟨O', h1.keeps hr (fun k hk e => hn' (by rw [← e]; exact hk)), (h2.mono (fun _ h => .inl h)).trans (hr.mono (fun _ h => .inr h)), fun k hk => (h3 k hk).imp (fun h => h) (fun h => ⟨h.1, Nat.lt_of_lt_of_le h.2 hr.size⟩), hr.heap h4 hne⟩
set_option maxHeartbeats 4000000 in
set_option maxRecDepth 100000 in
theorem get_miss (h : DfAt w db pb keys most D O) (k : Int) (hk0 : 0 ≤ k) (hk1 : k < keys) (hh : lhas k D.L = false) (hnd : (D.L.map (·.key)).Nodup) (hkr : ∀ e ∈ D.L, 0 ≤ e.key ∧ e.key < 4096) (hb : D.P.Lt 10000000) :
    Calls Try.prog 32 #[.pointer (some ⟨db, 0, none⟩), .int .i64 k] w (DfOut w db pb keys most O (.returned (.tuple #[.int .u64 (D.getV most k), .int .i64 (D.getC most k)])) (D.getD most k)) := by
  have hmf : ∀ (fn : Fn) (first cap : Array Value) (w : World), (Instr.makeFunc fn first cap).run Try.prog w = .ok (.func fn first cap) w := fun _ _ _ _ => rfl
  have hkk := h.lenB
  obtain ⟨cb, OL, OP, h, rfl⟩ := h
  have hdb := lt_of_heap h.blk
  have c1 : w.cell? ⟨db, 1, none⟩ = some (.int .i64 keys) := cell_of_heap h.blk 1
  have hlt := Lib.hid (fun k (hk : down db OL OP k) => h.lt hk)
  have h' := Lib.hid h
  have hh' := Lib.hid hh
  have hnd' := Lib.hid hnd
  have hkr' := Lib.hid hkr
  have hb' := Lib.hid hb
  obtain ⟨c, hcE⟩ : ∃ c, D.getC most k = c := ⟨_, rfl⟩
  obtain ⟨v, hvE⟩ : ∃ v, D.getV most k = v := ⟨_, rfl⟩
  rw [hcE, hvE]
  have hcE' := Lib.hid hcE
  have hvE' := Lib.hid hvE
  have d1 : decide (k < 0) = false := decide_eq_false (by omega)
  have d2 : decide (keys ≤ k) = false := decide_eq_false (by omega)
  have c1q := ((((Keeps.refl Nil w).alloc (.cells #[.pointer (some ⟨db, 0, none⟩)] 63)).alloc (.cells #[.int .i64 k] 3)).alloc (.cells #[.int .u64 0] 30)).cell c1 (fun h => h)
  clear h hh hnd hkr hb hcE hvE
  go_enter Try.func32, Try.ntmps32
  go_wp2_with fail
  go_quiet (fail)
  have hV := getV_new w db k nq
  generalize hW1 : (((w.alloc (.cells #[.pointer (some ⟨db, 0, none⟩)] 63)).alloc (.cells #[.int .i64 k] 3)).alloc (.cells #[.int .u64 0] 30)).drewN nq = W1 at hV ⊢
  have x0 := hV.m
  have x1 := hV.k
  have hB1 := h'.out.keeps hV.keep (fun _ _ h => h)
  have x4 : W1.cell? ⟨db, 4, none⟩ = some (.pointer (some ⟨cb, 0, none⟩)) := cell_of_heap hB1.blk 4
  have hG := getX (hB1.lru.nil ((Keeps.refl Nil W1).drew)) k
  rw [hh'.out, lfront_absent hh'.out] at hG
  have hG' := Lib.hid hG
  have ho : ∀ j, w.heap.size ≤ j → ¬ OL j := fun j hj h => by have := hlt.out _ (.inr (.inl h)); omega
  have hT := Lib.hid (show ∀ W, Keeps OL W1.drew W → W.cell? ⟨w.heap.size, 0, none⟩ = some (.pointer (some ⟨db, 0, none⟩)) ∧ W.cell? ⟨w.heap.size + 1, 0, none⟩ = some (.int .i64 k) ∧ W.cell? ⟨db, 4, none⟩ = some (.pointer (some ⟨cb, 0, none⟩)) from
    fun W hW => ⟨hW.cell x0 (ho _ (Nat.le_refl _)), hW.cell x1 (ho _ (by omega)), hW.cell x4 h'.out.ndl⟩)
  have hV' := Lib.hid hV
  have hB1' := Lib.hid hB1
  have ho' := Lib.hid ho
  clear hW1 hV hB1 hG ho
  go_wp2_with fail
  go_region_held3 (fun W => W.cell? ⟨w.heap.size, 0, none⟩ = some (.pointer (some ⟨db, 0, none⟩)) ∧ W.cell? ⟨w.heap.size + 1, 0, none⟩ = some (.int .i64 k) ∧ W.cell? ⟨db, 4, none⟩ = some (.pointer (some ⟨cb, 0, none⟩))) (first | exact ⟨x0, x1, x4⟩ | exact hT.out _ (Keeps.refl _ _) | exact hT.out _ hk5'.out) ((go_at_call 16; refine (hG'.out).mono ?_; rintro e w5 ⟨rfl, O5, hL5, hk5, hg5⟩; have hk5' := Lib.hid hk5; have hL5' := Lib.hid hL5; have hg5' := Lib.hid hg5; clear hk5 hL5 hg5))
  obtain ⟨hB5, hK5, hG5⟩ := (hB1'.out.keeps ((Keeps.refl Nil W1).drew) (fun _ _ h => h)).cache hL5'.out hk5'.out hg5'.out hB1'.out.len
  have hn5 := hk5'.out.heap (((Keeps.refl Nil W1).drew).heap hV'.out.n (fun h => h)) (ho'.out _ (by omega))
  have hlt5 := Lib.hid (lt_of_heap hV'.out.n)
  have hno : ∀ j, w.heap.size ≤ j → j < W1.heap.size → ¬ down db O5 OP j := fun j hj hj2 h => (hG5 _ h).elim (fun h => by have := hlt.out _ h; omega) (fun e => by have a2 : W1.drew.heap.size = W1.heap.size := rfl; omega)
  have sa := (Keeps.refl Nil w5).alloc (.cells #[.int .i64 0] 27)
  have hT5 := hT.out _ hk5'.out
  have hS := get53_any (most := most) ⟨cb, O5, OP, hB5.keeps sa (fun _ _ h => h), rfl⟩ k hh'.out (sa.cell hT5.1 (fun h => h)) (sa.cell hT5.2.1 (fun h => h)) (sa.heap hn5 (fun h => h)) (hno _ (by omega) hlt5.out) (hno _ (Nat.le_refl _) (by have := hlt5.out; omega)) (hno _ (by omega) (by have := hlt5.out; omega)) hk0 (by omega) hb'.out hnd'.out hkr'.out
  have hs15 : W1.heap.size ≤ w5.heap.size := hk5'.out.size
  have hR := Lib.hid (tried_any (w := w5) (c := Df.getC most k ⟨D.P, D.L⟩) (S := fun w1 => GetIn (w5.alloc (.cells #[.int .i64 0] 27)) db pb keys most (down db O5 OP) (w.heap.size + 1 + 1) (D.getV most k) (D.getD most k) w1) (enter53 _) (hS.mono fun e w1 h => by
    obtain ⟨rfl, h1⟩ := h
    refine ⟨rfl, h1, ?_⟩
    obtain ⟨O', _, h2, _⟩ := h1
    exact h2.mono (fun j hj => hj.elim (fun h => hB5.lt h) (fun e => by rw [e]; have := hlt5.out; omega))))
  rw [show Df.getC most k ⟨D.P, D.L⟩ = c from hcE'.out, hvE'.out] at hR
  have hK5' := Lib.hid hK5
  have hG5'' := Lib.hid hG5
  have hn2 := Lib.hid (show ¬ down db O5 OP w5.heap.size from fun h => by have := hB5.lt h; omega)
  have hs15' := Lib.hid hs15
  clear hB5 hK5 hG5 hn5 hS hT5 hno sa hs15
  go_wp2_with fail
  refine (hR.out).mono ?_
  rintro e w6 ⟨rfl, w1, hD1, hk6⟩
  obtain ⟨O', e1, e2, e3, e4⟩ := hD1.tried hk6 hn2.out (by simp) (by have := hlt5.out; have := hs15'.out; omega)
  have cn := cell_of_heap e4 0
  have fn := frozen_of_heap e4
  simp at cn
  have hE := Lib.hid (And.intro e1 (And.intro e2 e3))
  clear hD1 hk6 e1 e2 e3 e4
  go_wp2_with fail
  have s := (Keeps.refl (· = w.heap.size + 1 + 1) w6).setCell (p := ⟨w.heap.size + 1 + 1, 0, none⟩) (.inl rfl) (.int .u64 v)
  have sa := (Keeps.refl Nil w5).alloc (.cells #[.int .i64 0] 27)
  have hKa := ((hV'.out.keep.drew.mono (T := down db OL OP) (fun _ h => h.elim)).trans hK5'.out).trans (sa.mono (fun _ h => h.elim))
  have hGa : Grow (down db OL OP) (down db O5 OP) w (w5.alloc (.cells #[.int .i64 0] 27)) := fun j hj => (hG5''.out j hj).imp (fun h => h) (fun h => ⟨Nat.le_trans hV'.out.keep.size h.1, by simp; omega⟩)
  have hGf := hGa.trans hE.out.2.2 hKa.size hE.out.2.1.size
  have hnf : ¬ O' (w.heap.size + 1 + 1) := fun h => (hE.out.2.2 _ h).elim (fun h => (hG5''.out _ h).elim (fun h => by have := hlt.out _ h; omega) (fun e => by have a1 := hlt5.out; have a2 : W1.drew.heap.size = W1.heap.size := rfl; omega)) (fun e => by have a1 := hlt5.out; have a2 := hs15'.out; have a3 := e.1; simp at a3; omega)
  refine ⟨rfl, .tuple #[.int .u64 v, .int .i64 c], ?_, rfl, O', hE.out.1.keeps s (fun j hj e => hnf (by rw [← e]; exact hj)), ?_, fun j hj => (hGf j hj).imp (fun h => h) (fun h => ⟨h.1, Nat.lt_of_lt_of_le h.2 s.size⟩)⟩
  · simp [results, Try.results32, go_sem, World.cell?_setCell_same _ _ _ cn]
  · refine (hKa.trans' hE.out.2.1 (fun j hj => ?_)).setCell (.inr (by simp; omega)) _
    rcases hj with (hj | hj) | hj
    · exact (hGa j hj).imp (fun h => h) (fun h => h.1)
    · exact .inr (by omega)
    · exact .inr (by have := hs15'.out; have := hV'.out.keep.size; omega)
/-- Get -/
theorem dget_any (h : DfAt w db pb keys most D O) (hok : D.Ok keys most) (k : Int) (hk0 : 0 ≤ k) (hk1 : k < keys) (hb : D.P.Lt 10000000) :
    Calls Try.prog 32 #[.pointer (some ⟨db, 0, none⟩), .int .i64 k] w (DfOut w db pb keys most O (.returned (.tuple #[.int .u64 (D.getV most k), .int .i64 (D.getC most k)])) (D.getD most k)) := by
  have hkk := h.lenB
  cases hh : lhas k D.L with
  | true =>
    have := get_hit h k hk0 hk1 hh
    unfold Df.getV Df.getC Df.getD
    rw [hh]
    simp only [if_true]
    exact this
  | false => exact get_miss h k hk0 hk1 hh hok.nodup (fun e he => ⟨(hok.key e he).1, by have := (hok.key e he).2; omega⟩) hb
end Go.Proofs.Ytnickcjkipemmaa
