/- stripe: leaves together, by whichever of the two; a row without one of its leaves -/
import Derived.Test.YtdgcbjkopmlegaaR2
import Derived.Lib.AppendZeros
namespace Go.Proofs.Ytdgcbjkopmlegaa
open Go.RowKit

attribute [local go_sem ↓] Go.wp_at_zero Go.wp_at_succ

def errOf : Option Lf → Int
  | none => 1
  | some _ => 0
def lfOf (r : Option Lf) : Lf := r.getD ⟨[], []⟩
/-- what a call answers that makes a leaf, or none, wherever the leaf lies -/
def GenOut (w : World) (r : Option Lf) (e : Ending) (w' : World) : Prop :=
  ∃ sa sc ba bc, e = .returned (.tuple #[.agg #[.slice sa (lfOf r).sl.length sc, .slice ba (lfOf r).se.length bc], .int .i64 (errOf r)]) ∧ (∃ Z, LfZ w' sa ba (lfOf r) Z ∧ ∀ k, Z k → w.heap.size ≤ k) ∧ Keeps Nil w w'
theorem LfAt.empty (w : World) (sa ba : Option Addr) : LfAt w sa ba ⟨[], []⟩ := ⟨(fun i hi => by simp at hi), (fun i hi => by simp at hi)⟩
theorem LfZ.empty (w : World) (sa ba : Option Addr) : LfZ w sa ba ⟨[], []⟩ Nil := fun _ w' _ _ => LfAt.empty w' sa ba
theorem GenOut.none {w w' : World} (hk : Keeps Nil w w') : GenOut w none (.returned (.tuple #[.agg #[.slice none 0 0, .slice none 0 0], .int .i64 1])) w' := ⟨.none, 0, .none, 0, rfl, ⟨Nil, LfZ.empty _ _ _, fun _ h => h.elim⟩, hk⟩
theorem OwnLf.lfz {w : World} {S sg bg : Nat} {ds : List Nat} {x : Lf} (h : OwnLf w S sg bg ds x) : LfZ w (some ⟨sg, 0, .none⟩) (some ⟨bg, 0, .none⟩) x (lown sg bg ds) := fun _ _ hk hn => (h.keeps hk hn).at
theorem SumOut.gen {w w' : World} {S n : Nat} {r : Option Lf} {e : Ending} (h : SumOut w S n r e w') : GenOut w r e w' := by
  rcases h with ⟨rfl, rfl, hk⟩ | ⟨x, sg, bg, ds, rfl, rfl, hO, hx, hk, hf⟩
  · exact GenOut.none hk
  · refine ⟨some ⟨sg, 0, none⟩, n, some ⟨bg, 0, none⟩, n, ?_, ⟨_, hO.lfz, hf⟩, hk⟩
    have h2 := hO.n2
    rw [hx] at h2
    show _ = Ending.returned (.tuple #[.agg #[.slice _ x.sl.length n, .slice _ x.se.length n], .int .i64 0])
    rw [hx, h2]
theorem RefOut.gen {w w' : World} {n : Nat} {r : Option Lf} {e : Ending} (h : RefOut w n r e w') : GenOut w r e w' := by
  rcases h with ⟨rfl, rfl, hk⟩ | ⟨x, sa, sc, ba, bc, Z, rfl, rfl, hA, hf, hx, hy, hk⟩
  · exact GenOut.none hk
  · refine ⟨sa, sc, ba, bc, ?_, ⟨Z, hA, hf⟩, hk⟩
    show _ = Ending.returned (.tuple #[.agg #[.slice _ x.sl.length sc, .slice _ x.se.length bc], .int .i64 0])
    rw [hx, hy]
/-- what is known of all slots -/
def SeqOk (Ls : List Lf) : Prop := ∀ x ∈ Ls, ∀ s ∈ x.sl, 0 ≤ s.seq ∧ s.seq ≤ 18446744073709551615

theorem goodLay_nat {S0 N0 : Int} (h : goodLay S0 N0 = true) : ∃ S n : Nat, S0 = S ∧ N0 = n ∧ 1 ≤ S ∧ S ≤ 256 ∧ 1 ≤ n ∧ n ≤ 8 := by
  have := of_decide_eq_true h
  exact ⟨S0.toNat, N0.toNat, by omega, by omega, by omega, by omega, by omega, by omega⟩
theorem sumR_good {S n : Nat} {Ls : List Lf} (h : goodLay S n = true) : sumR S n Ls = sumIf S n Ls := by
  unfold sumR sumIf
  rw [h]
  simp
theorem sumR_bad {S0 N0 : Int} {Ls : List Lf} (h : goodLay S0 N0 = false) : sumR S0 N0 Ls = none := if_neg (by rw [h]; simp)
theorem sum15_any {w : World} (S0 N0 T : Int) {a : Option Addr} {cap : Nat} {Ls : List Lf} (hL : LeavesAt w a Ls) (hok : LeavesOk Ls) (hl : Ls.length ≤ 9223372036854775807) :
    Calls Try.prog 15 #[.agg #[.int .i64 S0, .int .i64 N0, .int .i64 T], .slice a Ls.length cap] w (GenOut w (sumR S0 N0 Ls)) := by
  cases hg : goodLay S0 N0
  · rw [sumR_bad hg]
    refine (sum15_bad S0 N0 T a Ls.length cap hg).mono ?_
    rintro e w' ⟨rfl, hk⟩
    exact GenOut.none hk
  · obtain ⟨S, n, rfl, rfl, h1, h2, h3, h4⟩ := goodLay_nat hg
    rw [sumR_good hg]
    exact (sum15_good S n S n T rfl rfl h1 h2 h3 h4 hL hok hl).mono (fun e w' h => h.gen)
theorem sum20_any {w : World} (S0 N0 T : Int) {a : Option Addr} {cap : Nat} {Ls : List Lf} (hL : LeavesAt w a Ls) (hok : LeavesOk Ls) (hwf : SeqOk Ls) (hl : Ls.length ≤ 9223372036854775807) :
    Calls Try.prog 20 #[.agg #[.int .i64 S0, .int .i64 N0, .int .i64 T], .slice a Ls.length cap] w (GenOut w (sumR S0 N0 Ls)) := by
  cases hg : goodLay S0 N0
  · rw [sumR_bad hg]
    exact (sum20_bad S0 N0 T 0 a Ls.length cap hg).mono (fun e w' h => h.gen)
  · obtain ⟨S, n, rfl, rfl, h1, h2, h3, h4⟩ := goodLay_nat hg
    rw [sumR_good hg]
    exact (sum20_good S n S n T rfl rfl h1 h2 h3 h4 hL hok hwf hl).mono (fun e w' h => h.gen)
theorem sumR_ok (S0 N0 : Int) (Ls : List Lf) : LfOk (lfOf (sumR S0 N0 Ls)) := by
  have h0 : LfOk (lfOf none) := ⟨by simp [lfOf], by simp [lfOf], fun i hi => by simp [lfOf] at hi⟩
  cases hg : goodLay S0 N0
  · rw [sumR_bad hg]; exact h0
  · obtain ⟨S, n, rfl, rfl, h1, h2, h3, h4⟩ := goodLay_nat hg
    rw [sumR_good hg]
    cases ha : Ls.all (mayB S n)
    · rw [sumIf_no ha]; exact h0
    · rw [sumIf_yes ha]
      show LfOk (sumL S n Ls)
      have hn : ∀ x ∈ Ls, x.sl.length = n ∧ x.se.length = n := fun x hx => by
        have := mayB_parts (List.all_eq_true.1 ha x hx); omega
      rw [sumL_colL hn]
      refine ⟨by rw [colL_slots]; omega, by rw [colL_secs]; omega, fun i hi => ?_⟩
      simp only [colL, List.getElem_map, colB_len]
      omega

/-- leaves in memory, and where each lies -/
def LhAt (w : World) (a : Option Addr) (L : List LH) : Prop :=
  ∀ i (_ : i < L.length), ∃ b off, a = some ⟨b, off, none⟩ ∧ w.cell? ⟨b, off + i * 2, none⟩ = some (.slice L[i].sa L[i].x.sl.length L[i].sc) ∧ w.cell? ⟨b, off + i * 2 + 1, none⟩ = some (.slice L[i].ba L[i].x.se.length L[i].bc) ∧ LfAt w L[i].sa L[i].ba L[i].x
theorem LhAt.nil {w w' : World} {a : Option Addr} {L : List LH} (h : LhAt w a L) (hk : Keeps Nil w w') : LhAt w' a L := fun i hi =>
  let ⟨b, off, e, h1, h2, h3⟩ := h i hi; ⟨b, off, e, hk.cell h1 (fun h => h), hk.cell h2 (fun h => h), h3.nil hk⟩
theorem LeavesAt.lh {w : World} {a : Option Addr} {Ls : List Lf} (h : LeavesAt w a Ls) : ∃ L : List LH, L.map (·.x) = Ls ∧ LhAt w a L := by
  obtain ⟨L, hl, hp⟩ := pick_list (n := Ls.length) (p := fun i (y : LH) => (∃ hi : i < Ls.length, y.x = Ls[i]) ∧ ∃ b off, a = some ⟨b, off, none⟩ ∧ w.cell? ⟨b, off + i * 2, none⟩ = some (.slice y.sa y.x.sl.length y.sc) ∧ w.cell? ⟨b, off + i * 2 + 1, none⟩ = some (.slice y.ba y.x.se.length y.bc) ∧ LfAt w y.sa y.ba y.x) (fun i hi => by
    obtain ⟨b, off, sa, sc, ba, bc, ha, h1, h2, h3⟩ := h i hi
    exact ⟨⟨Ls[i], sa, sc, ba, bc⟩, ⟨hi, rfl⟩, b, off, ha, h1, h2, h3⟩)
  refine ⟨L, ?_, fun i hi => (hp i hi).2⟩
  apply List.ext_getElem
  · simp [hl]
  · intro i h1 h2
    have h1' : i < L.length := by simpa using h1
    obtain ⟨hi, e⟩ := (hp i h1').1
    simp [e]
theorem LhAt.cells {w : World} {b off : Nat} {L : List LH} (h : LhAt w (some ⟨b, off, none⟩) L) (j : Nat) (u : Value) (hu : (recs lhC L)[j]? = some u) : w.cell? ⟨b, off + j, none⟩ = some u := by
  have hj : j < L.length * 2 := by
    have := (List.getElem?_eq_some_iff.1 hu).1
    rwa [recs_len lhC_len] at this
  have hi : j / 2 < L.length := by omega
  obtain ⟨b', off', e, h1, h2, _⟩ := h (j / 2) hi
  cases e
  have hr : j % 2 = 0 ∨ j % 2 = 1 := by omega
  rcases hr with hr | hr
  · have := recs_get lhC_len (L := L) (j := j / 2) (i := 0) (x := L[j / 2]) (v := .slice L[j / 2].sa L[j / 2].x.sl.length L[j / 2].sc) (by omega) (List.getElem?_eq_getElem hi) rfl
    rw [show j / 2 * 2 + 0 = j by omega, hu] at this
    rw [Option.some.inj this, ← h1]
    congr 2; omega
  · have := recs_get lhC_len (L := L) (j := j / 2) (i := 1) (x := L[j / 2]) (v := .slice L[j / 2].ba L[j / 2].x.se.length L[j / 2].bc) (by omega) (List.getElem?_eq_getElem hi) rfl
    rw [show j / 2 * 2 + 1 = j by omega, hu] at this
    rw [Option.some.inj this, ← h2]
    congr 2; omega
theorem LhAt.take {w : World} {b off : Nat} {L : List LH} (h : LhAt w (some ⟨b, off, none⟩) L) {i : Nat} (hi : i ≤ L.length) : Src w (some ⟨b, off, none⟩) 2 i (recs lhC (L.take i)) := by
  refine ⟨by rw [recs_len lhC_len]; simp; omega, (fun ha => by cases ha), fun ad ha j u hu => ?_⟩
  cases ha
  rw [Addr.add_lit]
  refine h.cells j u ?_
  rw [show recs lhC L = recs lhC (L.take i) ++ recs lhC (L.drop i) by rw [← recs_app, List.take_append_drop], List.getElem?_append_left (List.getElem?_eq_some_iff.1 hu).1]
  exact hu
theorem LhAt.drop {w : World} {b off o : Nat} {L : List LH} (h : LhAt w (some ⟨b, off, none⟩) L) {i : Nat} (hi : i ≤ L.length) (ho : i < L.length → o = off + i * 2) : Src w (some ⟨b, o, none⟩) 2 (L.length - i) (recs lhC (L.drop i)) := by
  refine ⟨by rw [recs_len lhC_len]; simp, (fun ha => by cases ha), fun ad ha j u hu => ?_⟩
  cases ha
  have hj : j < (L.length - i) * 2 := by
    have := (List.getElem?_eq_some_iff.1 hu).1
    rwa [recs_len lhC_len, List.length_drop] at this
  rw [ho (by omega), Addr.add_lit, Nat.add_assoc]
  refine h.cells (i * 2 + j) u ?_
  have el : (recs lhC (L.take i)).length = i * 2 := by rw [recs_len lhC_len]; simp; omega
  rw [show recs lhC L = recs lhC (L.take i) ++ recs lhC (L.drop i) by rw [← recs_app, List.take_append_drop], List.getElem?_append_right (by rw [el]; omega), el, show i * 2 + j - i * 2 = j by omega]
  exact hu
theorem LhAt.lf {w : World} {a : Option Addr} {L : List LH} (h : LhAt w a L) : ∀ x ∈ L, LfAt w x.sa x.ba x.x := fun x hx => by
  obtain ⟨i, hi, rfl⟩ := List.mem_iff_getElem.1 hx
  obtain ⟨_, _, _, _, _, h3⟩ := h i hi
  exact h3
theorem leaves_row {w : World} {a : Option Addr} {cap : Nat} {L : List LH} (hr : RecRow lhC 2 w 35 a cap L) (h : ∀ x ∈ L, LfAt w x.sa x.ba x.x) : LeavesAt w a (L.map (·.x)) := by
  intro i hi
  have hi' : i < L.length := by simpa using hi
  obtain ⟨g, ha, _, _, hc⟩ := hr.cell lhC_len (List.getElem?_eq_getElem hi')
  have c0 := hc 0 _ (by decide) rfl
  have c1 := hc 1 _ (by decide) rfl
  rw [Nat.add_zero] at c0
  refine ⟨g, 0, L[i].sa, L[i].sc, L[i].ba, L[i].bc, ha, ?_, ?_, ?_⟩
  · rw [Nat.zero_add]; simpa using c0
  · rw [Nat.zero_add]; simpa using c1
  · simpa using h _ (List.getElem_mem hi')

/-- a row without one of its leaves -/
def lessOne {α : Type} (Ls : List α) (m : Nat) : List α := Ls.take m ++ Ls.drop (m + 1)
theorem lessOne_len {α : Type} {Ls : List α} {m : Nat} (h : m < Ls.length) : (lessOne Ls m).length = Ls.length - 1 := by simp [lessOne]; omega
theorem lessOne_mem {α : Type} {Ls : List α} {m : Nat} {x : α} (h : x ∈ lessOne Ls m) : x ∈ Ls := by
  rcases List.mem_append.1 h with h | h
  · exact List.mem_of_mem_take h
  · exact List.mem_of_mem_drop h
theorem lessOne_map {α β : Type} (f : α → β) (Ls : List α) (m : Nat) : (lessOne Ls m).map f = lessOne (Ls.map f) m := by simp [lessOne, List.map_take, List.map_drop]
/-- the mending of one leaf -/
def mendR (S0 N0 : Int) (Ls : List Lf) (m : Int) : Option Lf := if 0 ≤ m ∧ m < Ls.length ∧ 2 ≤ Ls.length then sumR S0 N0 (lessOne Ls m.toNat) else none
theorem mendR_ok (S0 N0 : Int) (Ls : List Lf) (m : Int) : LfOk (lfOf (mendR S0 N0 Ls m)) := by
  unfold mendR
  split
  · exact sumR_ok _ _ _
  · exact ⟨by simp [lfOf], by simp [lfOf], fun i hi => by simp [lfOf] at hi⟩

theorem int3 : Try.prog.underlying 3 = some (.int .i64) := by kernel_rfl
set_option maxHeartbeats 4000000 in
set_option maxRecDepth 100000 in
theorem grow37 {w : World} (n : Nat) (h0 : 0 < n) (hn : n * 48 ≤ 140737488355328) :
    Calls Try.prog 37 #[.slice none 0 0, .int .i64 n] w fun e w' => ∃ g cap, e = .returned (.slice (some ⟨g, 0, none⟩) 0 cap) ∧ RowAt w' 35 2 (some ⟨g, 0, none⟩) 0 cap [] ∧ Keeps Nil w w' ∧ w.heap.size ≤ g := by
  obtain ⟨i35, hi35, ha0, ha1, ha2⟩ := info_parts info35
  have hz : ∀ ty, (Builtin.append_ #[28, 3] ty #[.slice none 0 0, .int .i64 (n : Int)]).run Try.prog w = _ := fun ty => Lib.run_append_nil_zeros w 28 3 ty 35 i35 _ .i64 .i64 Try.underlying28 int3 hi35 ha0 n h0 (by omega) (by omega) (by rw [ha2]; omega)
  have hge := grownCap_ge w n 0 35
  have hle := grownCap_le_maxLen w n 0 35 (by unfold maxLen; omega)
  obtain ⟨G, hG⟩ : ∃ G, grownCap w n 0 35 = G := ⟨_, rfl⟩
  rw [hG] at hz hge hle
  have hsz : (Builtin.zeroCells (Value.cells (.agg #[.slice none 0 0, .slice none 0 0])) n ++ Builtin.zeroCells (Value.cells (.agg #[.slice none 0 0, .slice none 0 0])) (G - n)).size = G * 2 := by
    rw [Array.size_append, size_zeroCells, size_zeroCells]
    show n * 2 + (G - n) * 2 = G * 2
    omega
  have hw : (w.drew.alloc (.cells (Builtin.zeroCells (Value.cells (.agg #[.slice none 0 0, .slice none 0 0])) n ++ Builtin.zeroCells (Value.cells (.agg #[.slice none 0 0, .slice none 0 0])) (G - n)) 35)).heap[w.heap.size]? = some (.cells (Builtin.zeroCells (Value.cells (.agg #[.slice none 0 0, .slice none 0 0])) n ++ Builtin.zeroCells (Value.cells (.agg #[.slice none 0 0, .slice none 0 0])) (G - n)) 35) := heap_alloc_new w.drew _
  have hkk : Keeps Nil w (w.drew.alloc (.cells (Builtin.zeroCells (Value.cells (.agg #[.slice none 0 0, .slice none 0 0])) n ++ Builtin.zeroCells (Value.cells (.agg #[.slice none 0 0, .slice none 0 0])) (G - n)) 35)) := (Keeps.refl Nil w).drew.alloc _
  have hw' := Lib.hid hw
  have hkk' := Lib.hid hkk
  have hsz' := Lib.hid hsz
  have hge' := Lib.hid hge
  have hle' := Lib.hid hle
  clear hw hkk hsz hG
  go_enter Try.func37, Try.ntmps37
  go_wp2_with (at_builtin; refine Lib.wpList_append_run _ rfl _ _ _ _ rfl _ _ rfl rfl _ _ (hz _) ?_)
  go_ret
  exact ⟨w.heap.size, G, rfl, ⟨rfl, .inr ⟨w.heap.size, G, _, rfl, Nat.zero_le _, hw'.out, Nat.zero_le _, hle'.out, hsz'.out, by simp⟩⟩, hkk'.out, Nat.le_refl _⟩

set_option maxHeartbeats 8000000 in
set_option maxRecDepth 100000 in
theorem concat28 {w : World} {p n1 n2 c1 c2 : Nat} {a1 a2 : Option Addr} {X Y : List LH} (h0 : w.cell? ⟨p, 0, none⟩ = some (.slice a1 n1 c1)) (h1 : w.cell? ⟨p, 1, none⟩ = some (.slice a2 n2 c2))
    (s1 : Src w a1 2 n1 (recs lhC X)) (s2 : Src w a2 2 n2 (recs lhC Y)) (e1 : a1 = none → c1 = 0) (e2 : a2 = none → c2 = 0) (hx : X.length = n1) (hy : Y.length = n2) (hpos : 0 < n1 + n2) (hb : (n1 + n2) * 48 ≤ 140737488355328) :
    Calls Try.prog 28 #[.slice (some ⟨p, 0, none⟩) 2 2] w fun e w' => ∃ a' cap, e = .returned (.slice a' (n1 + n2) cap) ∧ RecRow lhC 2 w' 35 a' cap (X ++ Y) ∧ Keeps Nil w w' := by
  obtain ⟨i35, hi35, ha0, ha1, ha2⟩ := info_parts info35
  have hG := Lib.hid (fun W => show Calls Try.prog 37 #[.slice none 0 0, .int .i64 ((n1 : Int) + (n2 : Int))] W fun e w' => ∃ g cap, e = .returned (.slice (some ⟨g, 0, none⟩) 0 cap) ∧ RowAt w' 35 2 (some ⟨g, 0, none⟩) 0 cap [] ∧ Keeps Nil W w' ∧ W.heap.size ≤ g from by rw [← Int.natCast_add]; exact grow37 (w := W) (n1 + n2) hpos hb)
  have s1' := Lib.hid s1
  have s2' := Lib.hid s2
  have e1' := Lib.hid e1
  have e2' := Lib.hid e2
  have hx' := Lib.hid hx
  have hy' := Lib.hid hy
  have h0' := Lib.hid h0
  have h1' := Lib.hid h1
  have x1 : wrap64 (n1 : Int) = (n1 : Int) := by unfold wrap64; omega
  have x2 : wrap64 ((n1 : Int) + (n2 : Int)) = (n1 : Int) + (n2 : Int) := by unfold wrap64; omega
  have d1 : ¬ ((n1 : Int) < 0) := by omega
  have d2 : ¬ ((n1 : Int) + (n2 : Int) < 0) := by omega
  have d1b : decide ((n1 : Int) < 0) = false := decide_eq_false d1
  have d2b : decide ((n1 : Int) + (n2 : Int) < 0) = false := decide_eq_false d2
  have q1 := Lib.hid (show 0 + n1 ≤ maxLen by unfold maxLen; omega)
  have q2 := Lib.hid (show (0 + n1) * 48 ≤ 140737488355328 by omega)
  have q3 := Lib.hid (show n1 + n2 ≤ maxLen by unfold maxLen; omega)
  have q4 := Lib.hid hb
  have hg0 := hpos
  clear s1 s2 e1 e2 hx hy hb
  go_enter Try.func28, Try.ntmps28
  go_wp2_with fail
  refine wp_loop_rounds 3 ?_
  rw [rounds_succ]
  go_wp2_with fail
  rw [rounds_succ]
  go_wp2_with fail
  rw [rounds_succ]
  go_wp2_with fail
  refine (hG.out _).mono ?_
  rintro e w2 ⟨g, cap, rfl, hr, hk, hg⟩
  have hr' := Lib.hid hr
  have hk' := Lib.hid hk
  have l0 := hk.cell h0'.out (fun h => h)
  have l1 := hk.cell h1'.out (fun h => h)
  clear hr hk h0 h1
  go_wp2_with fail
  refine wp_loop_rounds 3 ?_
  rw [rounds_succ]
  go_wp2_with (at_builtin; refine wpList_app _ rfl (.tmp 31) (.tmp 32) 28 rfl 35 i35 _ 2 48 Try.underlying28 hi35 ha0 ha1 ha2 rfl (by decide) (some ⟨g, 0, none⟩) 0 cap [] rfl a1 n1 c1 (recs lhC X) rfl ?_ (by exact hr'.out) (by exact s1'.out.keeps hk'.out) e1'.out (lhC_one X) q1.out q2.out; intro a5 cap5 w5 hr5 hk5 hn5; rw [Nat.zero_add] at hr5 ⊢; have hr5' := Lib.hid hr5; have kk5 := hk'.out.trans' hk5 (fun j hj => .inr (by (have : g = j := (by simpa [blk] using hj)); omega)); have m1 := kk5.cell h1'.out (fun h => h); have kk5' := Lib.hid kk5; have hn5' := Lib.hid hn5; clear hr5 hk5 hn5 kk5 l0 l1)
  rw [rounds_succ]
  go_wp2_with (at_builtin; refine wpList_app _ rfl (.tmp 31) (.tmp 32) 28 rfl 35 i35 _ 2 48 Try.underlying28 hi35 ha0 ha1 ha2 rfl (by decide) a5 n1 cap5 (recs lhC X) rfl a2 n2 c2 (recs lhC Y) rfl ?_ (by exact hr5'.out) (by exact s2'.out.keeps kk5'.out) e2'.out (lhC_one Y) q3.out q4.out; intro a6 cap6 w6 hr6 hk6 hn6; have hr6' := Lib.hid hr6; have hk6' := Lib.hid hk6; clear hr6 hk6 hn6)
  rw [rounds_succ]
  go_wp2_with fail
  go_ret
  refine ⟨a6, cap6, rfl, ?_, kk5'.out.trans' hk6'.out (fun j hj => .inr ?_)⟩
  · have := hr6'.out
    unfold RecRow
    rw [recs_app, List.length_append, hx'.out, hy'.out]
    exact this
  · have hkg := hk'.out.size
    rcases hn5'.out with h | ⟨h, _⟩
    · rw [h] at hj
      have : g = j := by simpa [blk] using hj
      omega
    · rw [h] at hj
      have : w2.heap.size = j := by simpa using hj
      omega

set_option maxHeartbeats 8000000 in
set_option maxRecDepth 100000 in
theorem mend21_none {w : World} (S0 N0 T m : Int) (len cap : Nat) (a : Option Addr) (h : ¬ (0 ≤ m ∧ m < len ∧ 2 ≤ len)) :
    Calls Try.prog 21 #[.agg #[.int .i64 S0, .int .i64 N0, .int .i64 T], .slice a len cap, .int .i64 m] w (GenOut w none) := by
  by_cases h1 : m < 0
  · have d1 := decide_eq_true h1
    clear h
    go_enter Try.func21, Try.ntmps21
    go_wp2_with fail
    exact bodyPost_ret (v := .tuple #[.agg #[.slice none 0 0, .slice none 0 0], .int .i64 1]) (by simp [results, Try.results21, go_sem]) rfl (GenOut.none (by first | exact ((Keeps.refl Nil w).alloc _).alloc _ | exact ((((Keeps.refl Nil w).alloc _).alloc _).setCell (.inr (by simp)) _).setCell (.inr (by simp)) _))
  · have d1 := decide_eq_false h1
    by_cases h2 : (len : Int) ≤ m
    · have d2 := decide_eq_true h2
      clear h
      go_enter Try.func21, Try.ntmps21
      go_wp2_with fail
      exact bodyPost_ret (v := .tuple #[.agg #[.slice none 0 0, .slice none 0 0], .int .i64 1]) (by simp [results, Try.results21, go_sem]) rfl (GenOut.none (by first | exact ((Keeps.refl Nil w).alloc _).alloc _ | exact ((((Keeps.refl Nil w).alloc _).alloc _).setCell (.inr (by simp)) _).setCell (.inr (by simp)) _))
    · have d2 := decide_eq_false h2
      have h3 : (len : Int) < 2 := by omega
      have d3 := decide_eq_true h3
      clear h
      go_enter Try.func21, Try.ntmps21
      go_wp2_with fail
      exact bodyPost_ret (v := .tuple #[.agg #[.slice none 0 0, .slice none 0 0], .int .i64 1]) (by simp [results, Try.results21, go_sem]) rfl (GenOut.none (by first | exact ((Keeps.refl Nil w).alloc _).alloc _ | exact ((((Keeps.refl Nil w).alloc _).alloc _).setCell (.inr (by simp)) _).setCell (.inr (by simp)) _))

set_option maxHeartbeats 8000000 in
set_option maxRecDepth 100000 in
theorem mend22_none {w : World} (S0 N0 T m : Int) (len cap : Nat) (a : Option Addr) (h : ¬ (0 ≤ m ∧ m < len ∧ 2 ≤ len)) :
    Calls Try.prog 22 #[.agg #[.int .i64 S0, .int .i64 N0, .int .i64 T], .slice a len cap, .int .i64 m] w (GenOut w none) := by
  by_cases h1 : m < 0
  · have d1 := decide_eq_true h1
    clear h
    go_enter Try.func22, Try.ntmps22
    go_wp2_with fail
    exact bodyPost_ret (v := .tuple #[.agg #[.slice none 0 0, .slice none 0 0], .int .i64 1]) (by simp [results, Try.results22, go_sem]) rfl (GenOut.none (by first | exact ((Keeps.refl Nil w).alloc _).alloc _ | exact ((((Keeps.refl Nil w).alloc _).alloc _).setCell (.inr (by simp)) _).setCell (.inr (by simp)) _))
  · have d1 := decide_eq_false h1
    by_cases h2 : (len : Int) ≤ m
    · have d2 := decide_eq_true h2
      clear h
      go_enter Try.func22, Try.ntmps22
      go_wp2_with fail
      exact bodyPost_ret (v := .tuple #[.agg #[.slice none 0 0, .slice none 0 0], .int .i64 1]) (by simp [results, Try.results22, go_sem]) rfl (GenOut.none (by first | exact ((Keeps.refl Nil w).alloc _).alloc _ | exact ((((Keeps.refl Nil w).alloc _).alloc _).setCell (.inr (by simp)) _).setCell (.inr (by simp)) _))
    · have d2 := decide_eq_false h2
      have h3 : (len : Int) < 2 := by omega
      have d3 := decide_eq_true h3
      clear h
      go_enter Try.func22, Try.ntmps22
      go_wp2_with fail
      exact bodyPost_ret (v := .tuple #[.agg #[.slice none 0 0, .slice none 0 0], .int .i64 1]) (by simp [results, Try.results22, go_sem]) rfl (GenOut.none (by first | exact ((Keeps.refl Nil w).alloc _).alloc _ | exact ((((Keeps.refl Nil w).alloc _).alloc _).setCell (.inr (by simp)) _).setCell (.inr (by simp)) _))

/-- the first i of a row, without number k -/
def skipTo (L : List LH) (k i : Nat) : List LH := if k < i then lessOne (L.take i) k else L.take i
theorem skip_zero (L : List LH) (k : Nat) : skipTo L k 0 = [] := by simp [skipTo]
theorem skip_same (L : List LH) (k : Nat) : skipTo L k (k + 1) = skipTo L k k := by
  unfold skipTo lessOne
  rw [if_pos (by omega), if_neg (by omega), List.drop_eq_nil_of_le (by simp; omega), List.append_nil, List.take_take, Nat.min_eq_left (by omega)]
theorem skip_next {L : List LH} {k i : Nat} (h : i ≠ k) (hi : i < L.length) : skipTo L k (i + 1) = skipTo L k i ++ [L[i]] := by
  unfold skipTo lessOne
  by_cases hk : k < i
  · rw [if_pos (by omega), if_pos hk, List.take_succ_eq_append_getElem hi, List.take_append_of_le_length (by simp; omega), List.drop_append_of_le_length (by simp; omega), List.append_assoc]
  · rw [if_neg (by omega), if_neg hk, List.take_succ_eq_append_getElem hi]
theorem skip_all {L : List LH} {k : Nat} (h : k < L.length) : skipTo L k L.length = lessOne L k := by
  unfold skipTo
  rw [if_pos h, List.take_of_length_le (Nat.le_refl _)]
theorem skip_len (L : List LH) (k i : Nat) : (skipTo L k i).length ≤ i := by
  unfold skipTo lessOne
  split <;> simp <;> omega

set_option maxHeartbeats 8000000 in
set_option maxRecDepth 100000 in
theorem mend22_good {w : World} (S0 N0 T : Int) (k : Nat) {a : Option Addr} {cap : Nat} {Ls : List Lf} (hL : LeavesAt w a Ls) (hok : LeavesOk Ls) (hwf : SeqOk Ls) (hl : Ls.length * 48 ≤ 140737488355328) (hk : k < Ls.length) (h2 : 2 ≤ Ls.length) :
    Calls Try.prog 22 #[.agg #[.int .i64 S0, .int .i64 N0, .int .i64 T], .slice a Ls.length cap, .int .i64 k] w (GenOut w (sumR S0 N0 (lessOne Ls k))) := by
  obtain ⟨i35, hi35, ha0, ha1, ha2⟩ := info_parts info35
  obtain ⟨L, hmap, hLh⟩ := hL.lh
  have hlen : L.length = Ls.length := by rw [← hmap]; simp
  obtain ⟨n, hn⟩ : ∃ n, Ls.length = n := ⟨_, rfl⟩
  rw [hn] at hl hk h2 hlen ⊢
  have hS := Lib.hid (show ∀ (W : World) (a' : Option Addr) (cap' : Nat), RecRow lhC 2 W 35 a' cap' (lessOne L k) → Keeps Nil w W → Calls Try.prog 20 #[.agg #[.int .i64 S0, .int .i64 N0, .int .i64 T], .slice a' (n - 1) cap'] W (GenOut W (sumR S0 N0 (lessOne Ls k))) from fun W a' cap' hr hkw => by
    have h1 := leaves_row hr (fun x hx => (hLh.nil hkw).lf x (lessOne_mem hx))
    rw [lessOne_map, hmap] at h1
    have e : (lessOne Ls k).length = n - 1 := by rw [lessOne_len (by omega), hn]
    have := sum20_any S0 N0 T (cap := cap') h1 (fun x hx => hok x (lessOne_mem hx)) (fun x hx => hwf x (lessOne_mem hx)) (by omega)
    rwa [e] at this)
  have hLh' := Lib.hid hLh
  have hlen' := Lib.hid hlen
  have d1 : decide ((k : Int) < 0) = false := decide_eq_false (by omega)
  have d2 : ¬ n ≤ k := by omega
  have d3 : decide ((n : Int) < 2) = false := decide_eq_false (by omega)
  have b0 := Lib.hid (heap_alloc_old (o' := .cells #[.slice none 0 0, .slice none 0 0] 35) (heap_alloc_new w (.cells #[.int .i64 S0, .int .i64 N0, .int .i64 T] 27)))
  have b1 := Lib.hid (heap_alloc_new (w.alloc (.cells #[.int .i64 S0, .int .i64 N0, .int .i64 T] 27)) (.cells #[.slice none 0 0, .slice none 0 0] 35))
  have kb := Lib.hid (((Keeps.refl Nil w).alloc (.cells #[.int .i64 S0, .int .i64 N0, .int .i64 T] 27)).alloc (.cells #[.slice none 0 0, .slice none 0 0] 35))
  clear hmap hL hok hwf hLh hlen hn
  go_enter Try.func22, Try.ntmps22
  go_wp2_with fail
  go_loopw [8, 9] (fun v8 c wx => ∃ (i l : Nat) (a' : Option Addr) (cap' : Nat), i ≤ n ∧ c = .int .i64 i ∧ v8 = .slice a' l cap' ∧ (skipTo L k i).length = l ∧ RecRow lhC 2 wx 35 a' cap' (skipTo L k i) ∧ (∀ g, blk a' = some g → w.heap.size + 1 < g) ∧ Keeps Nil w wx ∧ wx.heap[w.heap.size]? = some (.cells #[.int .i64 S0, .int .i64 N0, .int .i64 T] 27) ∧ wx.heap[w.heap.size + 1]? = some (.cells #[.slice none 0 0, .slice none 0 0] 35)) (fun _ c _ => n - (intOf c).toNat)
  case atStart => exact ⟨0, 0, none, 0, Nat.zero_le _, rfl, rfl, by rw [skip_zero]; rfl, by rw [skip_zero]; exact RecRow.nil _ _, (fun g hg => by cases hg), kb.out, b0.out, by simpa using b1.out⟩
  case round =>
    obtain ⟨i, l, a', cap', hi, rfl, rfl, hll, hR, hga, hK, hx0, hx1⟩ := hrel
    have hll' := Lib.hid hll
    have hR' := Lib.hid hR
    have hga' := Lib.hid hga
    have hK' := Lib.hid hK
    have hx0' := Lib.hid hx0
    have hx1' := Lib.hid hx1
    have hle := skip_len L k i
    rw [hll] at hle
    by_cases hin : i < n
    · by_cases hik : i = k
      · subst hik
        have hsame := Lib.hid (skip_same L i)
        clear hll hR hga hK hx0 hx1 hle
        go_wp2_with fail
        go_roundw
        case rel => exact ⟨i + 1, l, a', cap', by omega, by go_num, rfl, by rw [hsame.out]; exact hll'.out, by rw [hsame.out]; exact hR'.out, hga'.out, hK'.out, hx0'.out, hx1'.out⟩
        case measure => simp [intOf]; omega
      · have hiL : i < L.length := by rw [hlen'.out]; exact hin
        have hnx := Lib.hid (skip_next hik hiL)
        obtain ⟨b, off, rfl, hc0, hc1, _⟩ := hLh'.out i hiL
        have c0 := hK.cell hc0 (fun h => h)
        have c1 := hK.cell hc1 (fun h => h)
        obtain ⟨y, hy⟩ : ∃ y, L[i] = y := ⟨_, rfl⟩
        rw [hy] at c0 c1 hnx
        obtain ⟨yx, ysa, ysc, yba, ybc⟩ := y
        simp only at c0 c1
        obtain ⟨m1, hm1⟩ : ∃ m1, yx.sl.length = m1 := ⟨_, rfl⟩
        obtain ⟨m2, hm2⟩ : ∃ m2, yx.se.length = m2 := ⟨_, rfl⟩
        rw [hm1] at c0
        rw [hm2] at c1
        have hm1' := Lib.hid hm1
        have hm2' := Lib.hid hm2
        have hrow := Lib.hid (show RowAt wr 35 2 a' l cap' (recs lhC (skipTo L k i)) by have := hR; unfold RecRow at this; rwa [hll] at this)
        have hq1 := Lib.hid (show l + 1 ≤ maxLen by unfold maxLen; omega)
        have hq2 := Lib.hid (show (l + 1) * 48 ≤ 140737488355328 by omega)
        have e1 : (i == k) = false := by simpa using hik
        have e2 : (i != k) = true := by simpa using hik
        have e3 : ((i : Int) != (k : Int)) = true := by simpa using (by omega : ¬ (i : Int) = (k : Int))
        clear hll hR hga hK hx0 hx1 hle hc0 hc1 hy hm1 hm2
        go_wp2_with (at_builtin; refine wpList_app _ rfl (.tmp 33) (.tmp 38) 28 rfl 35 i35 _ 2 48 Try.underlying28 hi35 ha0 ha1 ha2 rfl (by decide) a' l cap' (recs lhC (skipTo L k i)) rfl _ 1 1 [.slice ysa m1 ysc, .slice yba m2 ybc] rfl ?_ (by exact hrow.out.keeps ((Keeps.refl Nil wr).alloc _) (fun _ _ h => h)) (by exact src_rec (heap_alloc_new wr (.cells #[.slice ysa m1 ysc, .slice yba m2 ybc] 35))) (fun h => by cases h) (by simp [Value.oneCell']) hq1.out hq2.out; intro a5 cap5 w5 hr5 hk5 hn5; have k5 := ((Keeps.refl (fun j => blk a' = some j) wr).alloc (.cells #[.slice ysa m1 ysc, .slice yba m2 ybc] 35)).trans hk5; have hr5' := Lib.hid hr5; have k5' := Lib.hid k5; have hn5' := Lib.hid hn5; clear hr5 hk5 hn5 k5)
        go_roundw
        case rel =>
          have hga2 := hga'.out
          have hsz := lt_of_heap hx1'.out
          refine ⟨i + 1, l + 1, a5, cap5, by omega, by go_num, rfl, by rw [hnx.out]; simp [hll'.out], ?_, fun g hg => ?_, hK'.out.trans' k5'.out (fun j hj => .inr (by have := hga2 j hj; omega)), k5'.out.heap hx0'.out (fun h => by have := hga2 _ h; omega), k5'.out.heap hx1'.out (fun h => by have := hga2 _ h; omega)⟩
          · rw [hnx.out]
            unfold RecRow
            rw [recs_app, recs_one, List.length_append, hll'.out]
            have e : lhC ⟨yx, ysa, ysc, yba, ybc⟩ = [.slice ysa m1 ysc, .slice yba m2 ybc] := by
              show [Value.slice ysa yx.sl.length ysc, Value.slice yba yx.se.length ybc] = _
              rw [hm1'.out, hm2'.out]
            rw [e]
            exact hr5'.out
          · rcases hn5'.out with h | ⟨h, _⟩
            · exact hga2 g (h ▸ hg)
            · rw [h] at hg
              have : wr.heap.size + 1 = g := by simpa using hg
              omega
        case measure => simp [intOf]; omega
    · obtain rfl : i = n := by omega
      have hfin : skipTo L k i = lessOne L k := by rw [← hlen'.out]; exact skip_all (by rw [hlen'.out]; exact hk)
      have hl1 : l = i - 1 := by rw [← hll, hfin, lessOne_len (by rw [hlen'.out]; exact hk), hlen'.out]
      rw [hfin] at hR
      have hC := Lib.hid (hS.out wr a' cap' hR hK)
      rw [← hl1] at hC
      have l0 := cell_of_heap hx0 0
      have l1 := cell_of_heap hx0 1
      have l2 := cell_of_heap hx0 2
      simp at l0 l1 l2
      clear hll hR hga hK hx0 hx1 hle hfin hl1
      go_wp2_with fail
      refine (hC.out).mono ?_
      rintro e w5 ⟨sa, sc, ba, bc, rfl, ⟨Z, hA, hZ⟩, hk5⟩
      have f2 := hk5.heap hx1'.out (fun h => h)
      have v0 := cell_of_heap f2 0
      have v1 := cell_of_heap f2 1
      simp at v0 v1
      have vf0 := frozen_of_heap f2 0
      have vf1 := frozen_of_heap f2 1
      have vl := lt_of_heap f2
      have hA' := Lib.hid hA
      have hZ' := Lib.hid hZ
      have hwl := Lib.hid (lt_of_heap hx1'.out)
      have hk5' := Lib.hid hk5
      obtain ⟨r, hr⟩ : ∃ r, sumR S0 N0 (lessOne Ls k) = r := ⟨_, rfl⟩
      rw [hr] at hA' ⊢
      obtain ⟨z1, hz1⟩ : ∃ z1, (lfOf r).sl.length = z1 := ⟨_, rfl⟩
      obtain ⟨z2, hz2⟩ : ∃ z2, (lfOf r).se.length = z2 := ⟨_, rfl⟩
      obtain ⟨er, her⟩ : ∃ er, errOf r = er := ⟨_, rfl⟩
      rw [hz1, hz2, her]
      have hz1' := Lib.hid hz1
      have hz2' := Lib.hid hz2
      have her' := Lib.hid her
      have hrr' := Lib.hid hr
      clear hA hZ hk5 f2 hr hz1 hz2 her
      go_wp2_with fail
      refine bodyPost_ret (v := .tuple #[.agg #[.slice sa z1 sc, .slice ba z2 bc], .int .i64 er]) (by simp [results, Try.results22, go_sem, v0, v1]) rfl ?_
      have kE : Keeps (· = w.heap.size + 1) w5 ((w5.setCell ⟨w.heap.size + 1, 0, none⟩ (.slice sa z1 sc)).setCell ⟨w.heap.size + 1, 1, none⟩ (.slice ba z2 bc)) := ((Keeps.refl (· = w.heap.size + 1) w5).setCell (.inl rfl) _).setCell (.inl rfl) _
      rw [hrr'.out]
      exact ⟨sa, sc, ba, bc, by rw [hz1'.out, hz2'.out, her'.out], ⟨Z, hA'.out.keeps kE (fun q hq e => by have := hZ'.out q hq; have := hwl.out; omega), fun q hq => by have := hZ'.out q hq; have := hK'.out.size; omega⟩, (hK'.out.trans hk5'.out).trans' kE (fun j hj => .inr (by omega))⟩
end Go.Proofs.Ytdgcbjkopmlegaa
