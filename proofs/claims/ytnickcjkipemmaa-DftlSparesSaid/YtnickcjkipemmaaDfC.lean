/- the reference's pager: At, New -/
import Derived.Test.YtnickcjkipemmaaDfB
namespace Go.Proofs.Ytnickcjkipemmaa
open Go.RowKit

variable {w w' : World} {pb mb : Nat} {P : Pg} {f : List (Int × Value)} {wa : Option Addr} {wc : Nat} {O T : Nat → Prop}
theorem wrap_small {x : Int} (h0 : -1000000000000 ≤ x) (h1 : x ≤ 1000000000000) : IntKind.i64.wrap x = x := by simp [IntKind.wrap, IntKind.signed, IntKind.bits]; omega
theorem div_bounds {per : Nat} (hp : 1 ≤ per) {k : Int} : 0 ≤ k % (per : Int) ∧ k % (per : Int) < per ∧ ¬ (per : Int) = 0 :=
  ⟨Int.emod_nonneg k (by omega), Int.emod_lt_of_pos k (by omega), by omega⟩
set_option maxHeartbeats 1000000 in
theorem at_any (h : PgAt w pb P O) {k : Int} (hk : 0 ≤ k) (hk2 : k ≤ 1000000000) : Calls Try.prog 35 #[.pointer (some ⟨pb, 0, none⟩), .int .i64 k] w fun e w' => e = .returned (.int .u64 (P.at k)) ∧ Keeps Nil w w' := by
  obtain ⟨mb, f, wa, wc, h⟩ := h
  have c0 : w.cell? ⟨pb, 0, none⟩ = some (.int .i64 (P.per : Nat)) := cell_of_heap h.blk 0
  have hper := h.per
  obtain ⟨d1, d2, d3⟩ := div_bounds (k := k) hper.1
  obtain ⟨r, hr⟩ : ∃ r : Nat, k % (P.per : Int) = (r : Nat) := ⟨(k % (P.per : Int)).toNat, by omega⟩
  have hP := Lib.hid (page_any h (k / (P.per : Int)))
  have hlen := h.len (k / (P.per : Int))
  obtain ⟨v, hv⟩ : ∃ v, P.at k = v := ⟨_, rfl⟩
  have hat : (P.pages (k / (P.per : Int))).getD r 0 = v := by rw [← hv]; unfold Pg.at; rw [hr]; rfl
  rw [hv]
  have hat' := Lib.hid hat
  have hr' := Lib.hid hr
  have hrl : r < P.per := by omega
  clear h hat hr hv
  go_enter Try.func35, Try.ntmps35
  go_wp2_with fail
  refine (hP.out).mono ?_
  rintro e w2 ⟨g, rfl, hN, hg, hk2⟩
  have c2 : w2.cell? ⟨g, (k % (P.per : Int)).toNat, none⟩ = some (.int .u64 v) := by rw [cell_of_heap hN, hr'.out, ← hat'.out]; exact ncells_get (by omega)
  have cp := hk2.cell c0 (fun h => h)
  have hk2' := Lib.hid hk2
  clear hk2 hN hP
  go_wp2_with fail
  go_ret
  exact ⟨rfl, hk2'.out⟩


/-! ### New -/
def gz (l : List Int) (x : Int) : Int := if 0 ≤ x then l.getD x.toNat 0 else 0
def pgNew (per : Nat) (first : List Int) : Pg :=
  { per := per, pages := fun n => (List.range per).map fun (i : Nat) => gz first (n * (per : Int) + (i : Int)), calls := 0, every := 0, bad := 0, loads := 0, stores := 0, last := -1, was := [] }
theorem pgNew_page {per : Nat} {first : List Int} {n : Int} {i : Nat} (hi : i < per) : ((pgNew per first).pages n)[i]? = some (gz first (n * (per : Int) + (i : Int))) := by
  show ((List.range per).map _)[i]? = _
  rw [List.getElem?_map, List.getElem?_range hi]; rfl
theorem pgNew_len (per : Nat) (first : List Int) (n : Int) : ((pgNew per first).pages n).length = per := by simp [pgNew]
theorem pgNew_at {per : Nat} {first : List Int} {k : Int} (hp : 0 < per) (hk : 0 ≤ k) : (pgNew per first).at k = first.getD k.toNat 0 := by
  have h2 := Int.emod_nonneg k (show (per : Int) ≠ 0 by omega)
  have h3 := Int.emod_lt_of_pos k (show (0 : Int) < per by omega)
  have h1 := Int.mul_ediv_add_emod k (per : Int)
  unfold Pg.at
  show ((pgNew per first).pages (k / (per : Int))).getD (k % (per : Int)).toNat 0 = _
  rw [List.getD_eq_getElem?_getD, pgNew_page (by omega), Option.getD_some, Int.toNat_of_nonneg h2, Int.mul_comm, h1]
  unfold gz
  rw [if_pos hk]
theorem gz_nil (x : Int) : gz [] x = 0 := by unfold gz; split <;> simp
theorem pgNew_nil (per : Nat) (n : Int) : (pgNew per []).pages n = List.replicate per 0 := by
  show (List.range per).map _ = _
  apply List.ext_getElem
  · simp
  · intro i h1 h2
    simp [gz_nil]
/-- a number more -/
theorem pgNew_step {per : Nat} {first : List Int} {i : Nat} (hp : 0 < per) (n : Int) :
    (pgNew per (first.take (i + 1))).pages n = if n = ((i : Int) / (per : Int)) then ((pgNew per (first.take i)).pages n).set (i % per) (first.getD i 0) else (pgNew per (first.take i)).pages n := by
  have hgz : ∀ x : Int, gz (first.take (i + 1)) x = if x = (i : Int) then first.getD i 0 else gz (first.take i) x := by
    intro x
    unfold gz
    by_cases hx : 0 ≤ x
    · obtain ⟨y, rfl⟩ : ∃ y : Nat, x = y := ⟨x.toNat, by omega⟩
      rw [if_pos hx, if_pos hx, Int.toNat_natCast, List.getD_eq_getElem?_getD, List.getD_eq_getElem?_getD, List.getD_eq_getElem?_getD, List.getElem?_take, List.getElem?_take]
      by_cases h1 : (y : Int) = (i : Int)
      · rw [if_pos h1, if_pos (by omega), show y = i by omega]
      · rw [if_neg h1]
        by_cases h2 : y < i
        · rw [if_pos h2, if_pos (by omega)]
        · rw [if_neg h2, if_neg (by omega)]
    · rw [if_neg hx, if_neg hx, if_neg (by omega)]
  have hp' : (0 : Int) < (per : Int) := by omega
  apply List.ext_getElem?
  intro j
  by_cases hj : j < per
  · rw [pgNew_page hj, hgz]
    by_cases hn : n = (i : Int) / (per : Int)
    · rw [if_pos hn, List.getElem?_set, pgNew_len, pgNew_page hj]
      have e := Int.mul_ediv_add_emod (i : Int) (per : Int)
      have e2 : ((i % per : Nat) : Int) = (i : Int) % (per : Int) := by simp
      by_cases hjj : i % per = j
      · rw [if_pos hjj, if_pos (show i % per < per by omega), if_pos (by rw [hn, Int.mul_comm]; omega)]
      · rw [if_neg hjj, if_neg (by rw [hn, Int.mul_comm]; omega)]
    · rw [if_neg hn, pgNew_page hj, if_neg]
      intro h
      apply hn
      have := (in_page (k := (i : Int)) (n := n) hp').1 ⟨by omega, by rw [Int.add_mul]; omega⟩
      exact this.symm
  · rw [List.getElem?_eq_none (by rw [pgNew_len]; omega)]
    split
    · rw [List.getElem?_eq_none (by rw [List.length_set, pgNew_len]; omega)]
    · rw [List.getElem?_eq_none (by rw [pgNew_len]; omega)]
theorem ncells_set (l : List Int) (i : Nat) (v : Int) : (ncells l).toArray.setIfInBounds i (.int .u64 v) = (ncells (l.set i v)).toArray := by
  apply Array.toList_inj.1
  simp [ncells, List.map_set]
theorem NumB.set {g : Nat} {l : List Int} (h : NumB w g l) (i : Nat) (v : Int) : NumB (w.setCell ⟨g, i, none⟩ (.int .u64 v)) g (l.set i v) := by
  unfold NumB
  rw [heap_setCell_same h, ncells_set]
/-- the slice at a reads as the numbers xs -/
def NumsAt (w : World) (a : Option Addr) (xs : List Int) : Prop := ∀ j, j < xs.length → ∃ b off, a = some ⟨b, off, none⟩ ∧ w.cell? ⟨b, off + j, none⟩ = some (.int .u64 (gi xs j))
theorem NumsAt.keeps {S : Nat → Prop} {w w' : World} {a : Option Addr} {xs : List Int} (h : NumsAt w a xs) (hk : Keeps S w w') (hn : ∀ b off, a = some ⟨b, off, none⟩ → ¬ S b) : NumsAt w' a xs :=
  fun j hj => let ⟨b, off, e, hc⟩ := h j hj; ⟨b, off, e, hk.cell hc (hn b off e)⟩
def PNewOut (w : World) (per : Nat) (first : List Int) (e : Ending) (w' : World) : Prop :=
  ∃ pb O, e = .returned (.pointer (some ⟨pb, 0, none⟩)) ∧ PgAt w' pb (pgNew per first) O ∧ Keeps Nil w w' ∧ ∀ k, O k → w.heap.size ≤ k
structure PNewIn (w wr : World) (pb mb per : Nat) (l : List Int) (f : List (Int × Value)) (O : Nat → Prop) : Prop where
  pg : PgB wr pb mb (pgNew per l) f none 0 O
  keep : Keeps Nil w wr
  new : ∀ k, O k → w.heap.size ≤ k
theorem pnew_start (w : World) {per : Nat} (hp : 1 ≤ per ∧ per ≤ 1024) :
    PNewIn w ((w.alloc (.map #[] 0)).alloc (.cells #[.int .i64 per, .map (some w.heap.size), .int .i64 0, .int .i64 0, .int .i64 0, .int .i64 0, .int .i64 0, .bool false, .int .i64 (-1), .slice none 0 0] 69)) (w.heap.size + 1) w.heap.size per [] [] (fun k => k = w.heap.size ∨ k = w.heap.size + 1) := by
  have hk := ((Keeps.refl Nil w).alloc (.map #[] 0)).alloc (.cells #[.int .i64 per, .map (some w.heap.size), .int .i64 0, .int .i64 0, .int .i64 0, .int .i64 0, .int .i64 0, .bool false, .int .i64 (-1), .slice none 0 0] 69)
  refine ⟨⟨?_, (MapAt.made w).keeps ((Keeps.refl Nil _).alloc _) (fun h => h), (fun n v h => by cases h), fun n _ => pgNew_nil per n, pgNew_len per [], .inl rfl, by simp [pgNew], .inr rfl, .inl rfl, fun k hk => ?_, hp⟩, hk, fun k hk => by omega⟩
  · have := heap_alloc_new (w.alloc (.map #[] 0)) (.cells #[.int .i64 per, .map (some w.heap.size), .int .i64 0, .int .i64 0, .int .i64 0, .int .i64 0, .int .i64 0, .bool false, .int .i64 (-1), .slice none 0 0] 69)
    rwa [show (w.alloc (.map #[] 0)).heap.size = w.heap.size + 1 by simp] at this
  · simp; omega
set_option maxHeartbeats 2000000 in
set_option maxRecDepth 100000 in
theorem pnew_any (per : Nat) {fa : Option Addr} {fc : Nat} {first : List Int} (w : World) (hp : 1 ≤ per ∧ per ≤ 1024) (hf : NumsAt w fa first) (hfl : first.length ≤ 1000000) :
    Calls Try.prog 28 #[.int .i64 per, .slice fa first.length fc] w (PNewOut w per first) := by
  have hmk := @run_makeMap Try.prog
  have hS := Lib.hid (pnew_start w hp)
  have hf' := Lib.hid hf
  have hp1 := hp.1
  clear hf
  go_enter Try.func28, Try.ntmps28
  go_wp2_with fail
  obtain ⟨pb, hpb⟩ : ∃ pb : Nat, w.heap.size + 1 = pb := ⟨_, rfl⟩
  obtain ⟨mb, hmb⟩ : ∃ mb : Nat, w.heap.size = mb := ⟨_, rfl⟩
  have hpn := Lib.hid (show w.heap.size ≤ pb ∧ w.heap.size ≤ mb by omega)
  rw [hpb, hmb] at hS ⊢
  clear hpb hmb
  go_loopw [6, 7] (fun i _ wr => ∃ (k : Nat) (f : List (Int × Value)) (O : Nat → Prop), k ≤ first.length ∧ i = .int .i64 k ∧ PNewIn w wr pb mb per (first.take k) f O) (fun i _ _ => first.length - (intOf i).toNat)
  case atStart => exact ⟨0, [], _, Nat.zero_le _, rfl, hS.out⟩
  case round =>
    obtain ⟨k, f, O, hk, rfl, hI⟩ := hrel
    by_cases hlt : k < first.length
    · obtain ⟨fb, fo, rfl, hc⟩ := (hf'.out.keeps hI.keep (fun _ _ _ h => h)) k hlt
      obtain ⟨d1, d2, d3⟩ := div_bounds (k := (k : Int)) hp1
      have hq0 : 0 ≤ (k : Int) / (per : Int) := Int.ediv_nonneg (by omega) (by omega)
      have hq1 : (k : Int) / (per : Int) ≤ 1000000 := Int.le_trans (Int.ediv_le_self _ (by omega)) (by omega)
      obtain ⟨r, hr⟩ : ∃ r : Nat, (k : Int) % (per : Int) = (r : Nat) := ⟨((k : Int) % (per : Int)).toNat, by omega⟩
      have hP : Hid (Calls Try.prog 49 _ _ (PageOut wr per ((pgNew per (first.take k)).pages ((k : Int) / (per : Int))))) := Lib.hid (page_any hI.pg ((k : Int) / (per : Int)))
      have hI' := Lib.hid hI
      have hrl : r < per := by omega
      have hp0 : ¬ per = 0 := by omega
      have htm : (k : Int).tmod (per : Int) = (k : Int) % (per : Int) := Int.tmod_eq_emod_of_nonneg (by omega)
      have htd : (k : Int).tdiv (per : Int) = (k : Int) / (per : Int) := Int.tdiv_eq_ediv_of_nonneg (by omega)
      have hwr : IntKind.i64.wrap ((k : Int) % (per : Int)) = (k : Int) % (per : Int) := wrap_small (by omega) (by omega)
      have hwq : IntKind.i64.wrap ((k : Int) / (per : Int)) = (k : Int) / (per : Int) := wrap_small (by omega) (by omega)
      have hr' := Lib.hid hr
      have hfb := lt_of_cell hc
      clear hI hr
      go_wp2_with fail
      refine (hP.out).mono ?_
      rintro e w2 ⟨g, rfl, hN, hg, hk2⟩
      have cf := hk2.cell hc (fun h => h)
      have hgf : ¬ fb = g := by omega
      have c1 : w2.cell? ⟨pb, 1, none⟩ = some (.map (some mb)) := cell_of_heap (hI'.out.pg.keeps hk2 (fun _ _ h => h)).blk 1
      have hN' := Lib.hid hN
      have hk2' := Lib.hid hk2
      have fz := frozen_of_heap hN
      have cg : w2.cell? ⟨g, ((k : Int) % (per : Int)).toNat, none⟩ = some (.int .u64 (((pgNew per (first.take k)).pages ((k : Int) / (per : Int))).getD r 0)) := by rw [cell_of_heap hN, hr'.out]; exact ncells_get (by rw [pgNew_len]; omega)
      have hgl := lt_of_heap hN
      clear hk2 hN hP
      go_wp2_with fail
      go_region_held3 (fun W => W.cell? ⟨fb, fo + k, none⟩ = some (.int .u64 (gi first k))) (first | exact cf | exact ((Keeps.refl (· = g) w2).setCell (.inl rfl) _).drew.cell cf hgf | (go_keep; done)) (fail)
      have hN2 := Lib.hid ((hN'.out.set r (gi first k)).keeps ((Keeps.refl Nil _).drew) (fun h => h))
      have hkS := Lib.hid (((Keeps.refl (· = g) w2).setCell (p := ⟨g, ((k : Int) % (per : Int)).toNat, none⟩) (.inl rfl) (.int .u64 (gi first k))).drew)
      have hgO : ∀ j, O j → ¬ j = g := fun j hj e => by have := hI'.out.pg.lt j hj; omega
      have hB2 := Lib.hid ((hI'.out.pg.keeps hk2'.out (fun _ _ h => h)).keeps hkS.out hgO)
      rw [hr'.out] at hB2 hkS ⊢
      rw [show ((r : Nat) : Int).toNat = r from rfl] at hB2 hkS ⊢
      generalize hW : (w2.setCell ⟨g, r, none⟩ (.int .u64 (gi first k))).drew = W3 at hN2 hB2 hkS ⊢
      have c1' : W3.cell? ⟨pb, 1, none⟩ = some (.map (some mb)) := cell_of_heap hB2.out.blk 1
      obtain ⟨w4, hu, hm4, hk4, hz4⟩ := run_upd (P := Try.prog) (w := W3.drew) Try.underlying66 Try.underlying3 (hB2.out.map.keeps ((Keeps.refl Nil W3).drew) (fun h => h)) ((k : Int) / (per : Int)) (.slice (some ⟨g, 0, none⟩) per per)
      have c1'' : w4.cell? ⟨pb, 1, none⟩ = some (.map (some mb)) := hk4.cell (((Keeps.refl Nil W3).drew).cell c1' (fun h => h)) (fun e => hB2.out.map.ne hB2.out.blk e.symm)
      have hP4 := hB2.out.put (w' := w4) hN2.out (by rw [List.length_set, pgNew_len]; rfl) (lt_of_heap hN2.out) hm4 (((Keeps.refl (· = mb) W3).drew).trans hk4)
      rw [show ({ pgNew per (first.take k) with pages := fun i => if i = (k : Int) / (per : Int) then ((pgNew per (first.take k)).pages ((k : Int) / (per : Int))).set r (gi first k) else (pgNew per (first.take k)).pages i } : Pg) = pgNew per (first.take (k + 1)) from by
        have e : (pgNew per (first.take (k + 1))).pages = fun i => if i = (k : Int) / (per : Int) then ((pgNew per (first.take k)).pages ((k : Int) / (per : Int))).set r (gi first k) else (pgNew per (first.take k)).pages i := by
          funext i
          rw [pgNew_step (by omega)]
          have er : k % per = r := by have := hr'.out; omega
          rw [er]
          by_cases hi : i = (k : Int) / (per : Int)
          · rw [if_pos hi, if_pos hi, hi]; rfl
          · rw [if_neg hi, if_neg hi]
        rw [← e]; rfl] at hP4
      have hE := Lib.hid (show PNewIn w w4 pb mb per (first.take (k + 1)) (mset ((k : Int) / (per : Int)) (.slice (some ⟨g, 0, none⟩) per per) f) (fun j => O j ∨ j = g) from
        ⟨hP4, ((hI'.out.keep.trans hk2'.out).trans' hkS.out (fun j hj => .inr (by rw [hj]; have := hI'.out.keep.size; omega))).trans' (((Keeps.refl (· = mb) W3).drew).trans hk4) (fun j hj => .inr (by rw [hj]; exact hpn.out.2)), fun j hj => by
          rcases hj with hj | hj
          · exact hI'.out.new j hj
          · rw [hj]; have := hI'.out.keep.size; omega⟩)
      clear hW c1 cf cg fz hgf hP4 hk4 hm4
      go_wp2_with fail
      go_region_held3 (fun W => W.cell? ⟨pb, 1, none⟩ = some (.map (some mb))) (first | exact c1' | exact c1'' | (go_keep; done)) (fail)
      clear hu
      go_wp2_with fail
      go_roundw
      case rel => exact ⟨k + 1, _, _, by omega, by go_num, hE.out⟩
      case measure => simp [intOf]; omega
    · have e : first.take k = first := List.take_of_length_le (by omega)
      rw [e] at hI
      have hI' := Lib.hid hI
      clear hI
      go_wp2_with fail
      go_ret
      exact ⟨pb, O, rfl, ⟨_, _, _, _, hI'.out.pg⟩, hI'.out.keep, hI'.out.new⟩
end Go.Proofs.Ytnickcjkipemmaa
