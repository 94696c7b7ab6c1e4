/- VictimLeast: the plain law and the walk -/
import Derived.Test.YtiemfmkaofakoaaH
import Derived.IntWalk
namespace Go.Proofs.Ytiemfmkaofakoaa
open Go.RowKit

theorem least_cases (l : Nat → Sup) (n : Nat) : (chooseR l n 1 = -1 ∧ ∀ j, j < n → mayG (l j) = false) ∨ ∃ i : Nat, chooseR l n 1 = i ∧ Best mayG l (lex greedy) n i := by
  have h := sel_best (p := mayG) (l := l) (c := lex greedy) (lex_ordr (key_ordr _)) (ltB greedy) (fun _ _ => rfl) n 0 (-1) (.inl ⟨rfl, fun j hj => by omega⟩)
  rw [Nat.zero_add] at h
  unfold chooseR
  rw [if_pos rfl]
  exact h
theorem may_false {s : Sup} (h : mayG s = false) : s.live < 0 ∨ 0 ≤ s.live ∧ s.slots ≤ s.live := by
  unfold mayG at h
  simp only [Bool.and_eq_false_iff, decide_eq_false_iff_not] at h
  omega
theorem may_true {s : Sup} (h : mayG s = true) : 0 ≤ s.live ∧ s.live < s.slots := by
  unfold mayG at h
  simpa using h
theorem best_live {l : Nat → Sup} {n i k : Nat} (hb : Best mayG l (lex greedy) n i) (hk : k < n) (hm : mayG (l k) = true) : ¬ (l k).live < (l i).live ∨ ((l k).live < (l i).live ∧ ¬ (l k).live < 1048576) := by
  have h1 := hb.least k hk hm
  have h2 := may_true hm
  have h3 := may_true hb.may
  unfold lex greedy cmpI inn at h1
  by_cases a : (l k).live < (l i).live
  · refine .inr ⟨a, fun h4 => ?_⟩
    rw [if_neg (show ¬ (l k).live < 0 by omega), if_neg (show ¬ (l i).live < 0 by omega), if_neg (show ¬ (l k).live > 1048576 by omega)] at h1
    by_cases e : (l i).live > 1048576
    · rw [if_pos e] at h1
      rw [if_neg (show ¬ (1048576 : Int) < (l k).live by omega), if_pos (show (1048576 : Int) > (l k).live by omega)] at h1
      simp at h1
    · rw [if_neg e] at h1
      rw [if_neg (show ¬ (l i).live < (l k).live by omega), if_pos (show (l i).live > (l k).live by omega)] at h1
      simp at h1
  · exact .inl a
/-- one more row with more that lives changes nothing -/
theorem least_more {l K : Nat → Sup} {n i : Nat} (hb : Best mayG l (lex greedy) n i) (hK : ∀ j, j < n → K j = l j) (hn : (l i).live < (K n).live) (hs : (l i).live ≤ 524288) : chooseR K (n + 1) 1 = i := by
  unfold chooseR
  rw [if_pos rfl]
  refine choose_best (c := greedy) (key_ordr _) ?_
  have e : K i = l i := hK i hb.lt
  have hm := may_true hb.may
  refine ⟨by have := hb.lt; omega, by rw [e]; exact hb.may, fun k hk hp => ?_, fun k hk hp => ?_⟩
  · by_cases h : k < n
    · rw [e, hK k h]; exact hb.least k h (by rw [← hK k h]; exact hp)
    · obtain rfl : k = n := by omega
      rw [e]
      have : greedy (l i) (K k) = -1 := by
        unfold greedy cmpI
        have e1 : inn (l i).live = (l i).live := by unfold inn; rw [if_neg (by omega), if_neg (by omega)]
        have e2 : (l i).live < inn (K k).live := by unfold inn; rw [if_neg (by omega)]; split <;> omega
        rw [e1, if_pos e2]
      unfold lex
      rw [if_neg (by omega), this]; omega
  · have h := hb.lt
    rw [e, hK k (by omega)]; exact hb.first k hk (by rw [← hK k (by omega)]; exact hp)

/-- the rows as cells -/
def rows (l : Nat → Sup) (n : Nat) : List Sup := (List.range n).map l
theorem rows_len (l : Nat → Sup) (n : Nat) : (rows l n).length = n := by simp [rows]
theorem rows_get (l : Nat → Sup) {n j : Nat} (h : j < n) : (rows l n).getD j default = l j := by simp [rows, List.getD, h]
theorem cells_at (w : World) {b off : Nat} {s : Sup} (h : SupAt w b off s) : ∀ (j : Nat) (u : Value), (supC s)[j]? = some u → w.cell? ⟨b, off + j, none⟩ = some u := by
  intro j u hu
  match j, hu with
  | 0, hu => cases hu; exact h.c0
  | 1, hu => cases hu; exact h.c1
  | 2, hu => cases hu; exact h.c2
  | 3, hu => cases hu; exact h.c3
  | 4, hu => cases hu; exact h.c4
  | 5, hu => cases hu; exact h.c5
  | 6, hu => cases hu; exact h.c6
  | j + 7, hu => simp [supC] at hu
theorem cellsOf_split : ∀ (ls : List Sup) (j : Nat) (u : Value), (cellsOf ls)[j]? = some u → j / 7 < ls.length ∧ (supC (ls.getD (j / 7) default))[j % 7]? = some u
  | [], j, u, h => by simp [cellsOf] at h
  | s :: r, j, u, h => by
    have e : cellsOf (s :: r) = supC s ++ cellsOf r := by unfold cellsOf; rw [List.flatMap_cons]
    rw [e] at h
    by_cases h7 : j < 7
    · rw [List.getElem?_append_left (by show j < 7; exact h7)] at h
      rw [Nat.div_eq_of_lt h7, Nat.mod_eq_of_lt h7]
      exact ⟨by simp, h⟩
    · rw [List.getElem?_append_right (by show 7 ≤ j; omega)] at h
      have := cellsOf_split r (j - 7) u h
      have e1 : j / 7 = (j - 7) / 7 + 1 := by omega
      have e2 : j % 7 = (j - 7) % 7 := by omega
      rw [e1, e2]
      exact ⟨by simpa using this.1, this.2⟩
theorem src_rows {w : World} {a : Option Addr} {n : Nat} {l : Nat → Sup} (h : SupsAt w a n l) : Src w a 7 n (cellsOf (rows l n)) := by
  refine ⟨by rw [cellsOf_len, rows_len], fun ha => ?_, fun ad ha j u hu => ?_⟩
  · rcases Nat.eq_zero_or_pos n with h0 | h0
    · exact h0
    · obtain ⟨b, off, h1, _⟩ := h 0 h0
      rw [ha] at h1; cases h1
  · obtain ⟨h1, h2⟩ := cellsOf_split _ _ _ hu
    rw [rows_len] at h1
    rw [rows_get l h1] at h2
    obtain ⟨b, off, h3, h4⟩ := h (j / 7) h1
    rw [ha] at h3; cases h3
    have := cells_at w h4 _ _ h2
    rw [Addr.add_lit]
    rw [Nat.add_assoc, show j / 7 * 7 + j % 7 = j by omega] at this
    exact this
theorem sups_rows {w : World} {a : Option Addr} {cap n : Nat} {l : Nat → Sup} {s : Sup} (h : RowAt w 30 7 a (n + 1) cap (cellsOf (rows l n) ++ supC s)) : SupsAt w a (n + 1) (fun j => if j < n then l j else s) := by
  have e : cellsOf (rows l n ++ [s]) = cellsOf (rows l n) ++ supC s := by unfold cellsOf; simp
  have hr : SupRow w a cap (rows l n ++ [s]) := by
    unfold SupRow
    rw [e, List.length_append, rows_len]
    exact h
  have h2 := hr.sups
  rw [List.length_append, rows_len] at h2
  refine sups_congr h2 fun j hj => ?_
  show (rows l n ++ [s]).getD j default = if j < n then l j else s
  by_cases hjn : j < n
  · rw [if_pos hjn, getD_snoc_old _ _ (by rw [rows_len]; exact hjn), rows_get l hjn]
  · rw [if_neg hjn, show j = (rows l n).length by rw [rows_len]; change j < n + 1 at hj; omega, getD_snoc_last]

def withS (l : Nat → Sup) (n : Nat) (s : Sup) : Nat → Sup := fun j => if j < n then l j else s
theorem withS_more {l : Nat → Sup} {n i : Nat} {s : Sup} (hb : Best mayG l (lex greedy) n i) (hn : (l i).live < s.live) (hs : (l i).live ≤ 524288) : chooseR (withS l n s) (n + 1) 1 = i :=
  least_more hb (fun j hj => if_pos hj) (by show _ < (if n < n then l n else s).live; rw [if_neg (by omega)]; exact hn) hs
theorem sup_drew {w : World} {b o : Nat} {s : Sup} (h : SupAt w b o s) : SupAt w.drew b o s := ⟨h.c0, h.c1, h.c2, h.c3, h.c4, h.c5, h.c6⟩
theorem supC_one' (s : Sup) : ∀ u ∈ supC s, u.oneCell' = true := by
  intro u hu
  simp only [supC, List.mem_cons, List.not_mem_nil, or_false] at hu
  rcases hu with rfl | rfl | rfl | rfl | rfl | rfl | rfl <;> rfl
theorem least_row {w wr W w2 : World} {a2 : Option Addr} {cap2 n : Nat} {l : Nat → Sup} (hk : Keeps Nil w wr) (hW : Keeps Nil wr W) (hr : RowAt w2 30 7 a2 (0 + n) cap2 ([] ++ cellsOf (rows l n))) (hk2 : Keeps (fun j => blk none = some j) W w2)
    (hb : blk a2 = blk none ∨ blk a2 = some W.heap.size ∧ W.heap.size < w2.heap.size) : RowAt w2 30 7 a2 n cap2 (cellsOf (rows l n)) ∧ Keeps Nil w w2 ∧ ∀ g, blk a2 = some g → w.heap.size ≤ g := by
  refine ⟨by rw [Nat.zero_add] at hr; exact hr, (hk.trans hW).trans' hk2 (fun j hj => by cases hj), fun g hg => ?_⟩
  have h1 := hk.size
  have h2 := hW.size
  rcases hb with hb | ⟨hb, _⟩
  · rw [hb] at hg; cases hg
  · rw [hb] at hg; cases hg; omega

set_option maxHeartbeats 4000000 in
set_option maxRecDepth 100000 in
theorem least_none (a : Option Addr) (n cap : Nat) (l : Nat → Sup) (x : Int) (w : World) (hl : SupsAt w a n l) (hm : n ≤ maxLen) (hg : chooseR l n 1 = -1) (hno : ∀ j, j < n → mayG (l j) = false) :
    Calls Try.prog 5 #[.slice a n cap, .int .i64 x] w fun e w' => e = .returned (.bool true) ∧ Keeps Nil w w' := by
  have hm' := Lib.hid hm
  unfold maxLen at hm
  have hl' := Lib.hid hl
  have hno' := Lib.hid hno
  have hg' := Lib.hid hg
  clear hl hno hg
  have d0 : decide ((n : Int) ≤ -1) = false := decide_eq_false (by omega)
  go_enter Try.func5, Try.ntmps5
  go_wp2_with fail
  refine (awake_any w).mono ?_
  rintro e w1 ⟨rfl, k1⟩
  have k1' := Lib.hid k1
  clear k1
  go_wp2_with fail
  refine (choose_val _ n _ l 1 (-1) _ (by exact hl'.out.keeps k1'.out) (by exact hm'.out) (by exact hg'.out)).mono ?_
  rintro e w2 ⟨rfl, k2⟩
  have k2' := Lib.hid (k1'.out.trans k2)
  clear k2
  go_wp2_with fail
  go_loopw [7] (fun i wr => ∃ k : Nat, k ≤ n ∧ i = .int .i64 k ∧ Keeps Nil w wr) (fun i _ => n - (intOf i).toNat)
  case atStart => exact ⟨0, Nat.zero_le _, rfl, k2'.out⟩
  case round =>
    obtain ⟨k, hk, rfl, hkp⟩ := hrel
    have hkp' := Lib.hid hkp
    clear hkp
    by_cases hlt : k < n
    · obtain ⟨b, off, rfl, c0, c1, c2, c3, c4, c5, c6⟩ := (hl'.out.keeps hkp'.out) k hlt
      have hmk := hno'.out k hlt
      rcases may_false hmk with hc1 | ⟨hc1, hc2⟩
      · have d1 : decide (0 ≤ (l k).live) = false := decide_eq_false (by omega)
        go_wp2_with fail
        go_quiet (fail)
        go_wp2_with fail
        go_quiet (fail)
        go_wp2_with fail
        go_roundw
        case rel => exact ⟨k + 1, by omega, by go_num, (hkp'.out).drewN _⟩
        case measure => simp [intOf]; omega
      · have d1 : decide (0 ≤ (l k).live) = true := decide_eq_true (by omega)
        have d2 : decide ((l k).live < (l k).slots) = false := decide_eq_false (by omega)
        go_wp2_with fail
        go_quiet (fail)
        go_wp2_with fail
        go_quiet (fail)
        go_wp2_with fail
        go_roundw
        case rel => exact ⟨k + 1, by omega, by go_num, (hkp'.out).drewN _⟩
        case measure => simp [intOf]; omega
    · go_wp2_with fail
      go_ret
      exact ⟨rfl, hkp'.out⟩

set_option maxHeartbeats 4000000 in
set_option maxRecDepth 100000 in
theorem least_some (a : Option Addr) (n cap : Nat) (l : Nat → Sup) (x : Int) (i : Nat) (w : World) (hl : SupsAt w a n l) (hm : n ≤ maxLen) (hx0 : -9223372036854775808 ≤ x) (hx1 : x ≤ 9223372036854775807) (hby : n * 56 ≤ 140737488351232) (hg : chooseR l n 1 = i) (hb : Best mayG l (lex greedy) n i) :
    Calls Try.prog 5 #[.slice a n cap, .int .i64 x] w fun e w' => e = .returned (.bool true) ∧ Keeps Nil w w' := by
  obtain ⟨i30, hi, hz0, hz1, hz2⟩ := info_parts Try.info30
  have hm' := Lib.hid hm
  unfold maxLen at hm
  have hl' := Lib.hid hl
  have hg' := Lib.hid hg
  have hin := hb.lt
  have hmi := may_true hb.may
  have hb' := Lib.hid hb
  clear hl hg hb
  have d0 : decide ((n : Int) ≤ (i : Int)) = false := decide_eq_false (by omega)
  have d0' : decide (n ≤ i) = false := decide_eq_false (by omega)
  go_enter Try.func5, Try.ntmps5
  go_wp2_with fail
  refine (awake_any w).mono ?_
  rintro e w1 ⟨rfl, k1⟩
  have k1' := Lib.hid k1
  clear k1
  go_wp2_with fail
  refine (choose_val _ n _ l 1 i _ (by exact hl'.out.keeps k1'.out) (by exact hm'.out) (by exact hg'.out)).mono ?_
  rintro e w2 ⟨rfl, k2⟩
  have k2' := Lib.hid (k1'.out.trans k2)
  clear k2
  go_wp2_with fail
  go_loopw [7] (fun i wr => ∃ k : Nat, k ≤ n ∧ i = .int .i64 k ∧ Keeps Nil w wr) (fun i _ => n - (intOf i).toNat)
  case atStart => exact ⟨0, Nat.zero_le _, rfl, k2'.out⟩
  case round =>
    obtain ⟨k, hk, rfl, hkp⟩ := hrel
    have hkp' := Lib.hid hkp
    clear hkp
    obtain ⟨b, off, rfl, i0, i1, i2, i3, i4, i5, i6⟩ := (hl'.out.keeps hkp'.out) i hin
    by_cases hlt : k < n
    · obtain ⟨b', off', hbe, c0, c1, c2, c3, c4, c5, c6⟩ := (hl'.out.keeps hkp'.out) k hlt
      cases hbe
      by_cases hmk : mayG (l k) = true
      · have hbl := best_live hb'.out hlt hmk
        have hmt := may_true hmk
        have d1 : decide (0 ≤ (l k).live) = true := decide_eq_true (by omega)
        have d2 : decide ((l k).live < (l k).slots) = true := decide_eq_true (by omega)
        rcases hbl with h3 | ⟨h3, h4⟩
        · have d3 : decide ((l k).live < (l i).live) = false := decide_eq_false h3
          clear hmk
          go_wp2_with fail
          go_quiet (fail)
          go_wp2_with fail
          go_quiet (fail)
          go_wp2_with fail
          go_roundw
          case rel => exact ⟨k + 1, by omega, by go_num, (hkp'.out).drewN _⟩
          case measure => simp [intOf]; omega
        · have d3 : decide ((l k).live < (l i).live) = true := decide_eq_true h3
          have d4 : decide ((l k).live < 1048576) = false := decide_eq_false h4
          clear hmk
          go_wp2_with fail
          go_quiet (fail)
          go_wp2_with fail
          go_quiet (fail)
          go_wp2_with fail
          go_roundw
          case rel => exact ⟨k + 1, by omega, by go_num, (hkp'.out).drewN _⟩
          case measure => simp [intOf]; omega
      · have hmk : mayG (l k) = false := by simpa using hmk
        rcases may_false hmk with hc1 | ⟨hc1, hc2⟩
        · have d1 : decide (0 ≤ (l k).live) = false := decide_eq_false (by omega)
          go_wp2_with fail
          go_quiet (fail)
          go_wp2_with fail
          go_quiet (fail)
          go_wp2_with fail
          go_roundw
          case rel => exact ⟨k + 1, by omega, by go_num, (hkp'.out).drewN _⟩
          case measure => simp [intOf]; omega
        · have d1 : decide (0 ≤ (l k).live) = true := decide_eq_true (by omega)
          have d2 : decide ((l k).live < (l k).slots) = false := decide_eq_false (by omega)
          go_wp2_with fail
          go_quiet (fail)
          go_wp2_with fail
          go_quiet (fail)
          go_wp2_with fail
          go_roundw
          case rel => exact ⟨k + 1, by omega, by go_num, (hkp'.out).drewN _⟩
          case measure => simp [intOf]; omega
    · have d5 : decide ((l i).live < 0) = false := decide_eq_false (by omega)
      have d6 : decide ((l i).slots ≤ (l i).live) = false := decide_eq_false (by omega)
      go_wp2_with fail
      go_quiet (fail)
      by_cases hbig : (l i).live > 524288
      · go_wp2_with fail
        go_ret
        exact ⟨rfl, (hkp'.out).drewN _⟩
      · by_cases hx : x < 0
        · obtain ⟨q, hq⟩ := Int.eq_ofNat_of_zero_le (Int.emod_nonneg (-(x + 1)) (show (9 : Int) ≠ 0 by decide))
          have hq9 : q < 9 := by have := Int.emod_lt_of_pos (-(x + 1)) (show (0 : Int) < 9 by decide); omega
          have hmod : (-(x + 1)).tmod 9 = (q : Int) := by rw [Int.tmod_eq_emod_of_nonneg (by omega)]; exact hq
          clear hq
          have hpos : 0 < n := by omega
          have hsrc := Lib.hid (src_rows (hl'.out.keeps ((hkp'.out).drewN nq)))
          go_wp2_with (at_builtin; refine wpList_app _ rfl _ _ 22 rfl 30 i30 (.agg #[.int .u32 0, .int .i64 0, .int .i64 0, .int .i64 0, .int .i64 0, .int .i64 0, .bool false]) 7 56 Try.underlying22 hi hz0 hz1 hz2 rfl (by decide) none 0 0 [] rfl _ n _ (cellsOf (rows l n)) rfl ?_ (RowAt.nil _ _ _) (by exact hsrc.out) (fun h => by cases h) (cellsOf_one _) (by simp only [maxLen]; omega) (by omega); intro a2 cap2 w3 hr3 hk3 hb3)
          obtain ⟨hr4, hk4, hg4⟩ := least_row hkp'.out ((Keeps.refl Nil wr).drewN nq) hr3 hk3 hb3
          have hl4 := Lib.hid (hl'.out.keeps hk4)
          obtain ⟨b2, off2, hbe, j0, j1, j2, j3, j4, j5, j6⟩ := hl4.out i hin
          cases hbe
          have hr4' := Lib.hid hr4
          have hk4' := Lib.hid hk4
          have hg4' := Lib.hid hg4
          clear hr3 hk3 hb3 hr4 hk4 hg4
          have h63 := Lib.hid (show n + 1 ≤ maxLen by simp only [maxLen]; omega)
          have h64 := Lib.hid (show (n + 1) * 56 ≤ 140737488355328 by omega)
          have hG := Lib.hid (withS_more (s := ⟨0, (l i).live + 1 + q, (l i).live + 20, 0, 0, 0, false⟩) hb'.out (by show _ < (l i).live + 1 + (q : Int); omega) (by omega))
          have e2 : (i == i) = true := by simp
          have s1 : IntKind.i64.wrap ((l i).live + 1) = (l i).live + 1 := IntWalk.i64_in _ (by omega)
          have s2 : IntKind.i64.wrap ((l i).live + 1 + ↑q) = (l i).live + 1 + ↑q := IntWalk.i64_in _ (by omega)
          have s3 : IntKind.i64.wrap ((l i).live + 20) = (l i).live + 20 := IntWalk.i64_in _ (by omega)
          go_region_law ((refine step_app _ (by rfl) _ _ 22 (by rfl) 30 i30 (.agg #[.int .u32 0, .int .i64 0, .int .i64 0, .int .i64 0, .int .i64 0, .int .i64 0, .bool false]) 7 56 Try.underlying22 hi hz0 hz1 hz2 rfl (by decide) _ n cap2 _ (by rfl) _ 1 1 (supC ⟨0, (l i).live + 1 + q, (l i).live + 20, 0, 0, 0, false⟩) (by rfl) (hr4'.out.keeps (((Keeps.refl Nil _).alloc _).drew) (fun _ _ h => h)) (src_sup (sup_drew (sup_new w3 ⟨0, (l i).live + 1 + q, (l i).live + 20, 0, 0, 0, false⟩ 30))) (fun h => by cases h) (supC_one' _) (by exact h63.out) (by exact h64.out) ?_; intro a5 cap5 w5 hr5 hk5 hb5))
          all_goals
            have hS := Lib.hid (sups_rows hr5 : SupsAt w5 a5 (n + 1) (withS l n ⟨0, (l i).live + 1 + q, (l i).live + 20, 0, 0, 0, false⟩))
            have hK5 := Lib.hid ((hk4'.out.trans (((Keeps.refl Nil w3).alloc _).drew)).trans' hk5 (fun j hj => .inr (hg4'.out j hj)))
            clear s1 s2 s3 hr5 hk5 hb5
            go_wp2_with fail
            refine (choose_val _ (n + 1) _ (withS l n ⟨0, (l i).live + 1 + q, (l i).live + 20, 0, 0, 0, false⟩) 1 i _ (by exact hS.out) (by exact h63.out) (by exact hG.out)).mono ?_
            rintro e w6 ⟨rfl, k6⟩
            have k6' := Lib.hid k6
            clear k6
            go_wp2_with fail
            go_ret
            exact ⟨rfl, hK5.out.trans k6'.out⟩
        · obtain ⟨q, hq⟩ := Int.eq_ofNat_of_zero_le (Int.emod_nonneg x (show (9 : Int) ≠ 0 by decide))
          have hq9 : q < 9 := by have := Int.emod_lt_of_pos x (show (0 : Int) < 9 by decide); omega
          have hmod : x.tmod 9 = (q : Int) := by rw [Int.tmod_eq_emod_of_nonneg (by omega)]; exact hq
          have hmod2 : x % 9 = (q : Int) := hq
          clear hq
          have hpos : 0 < n := by omega
          have hsrc := Lib.hid (src_rows (hl'.out.keeps ((hkp'.out).drewN nq)))
          go_wp2_with (at_builtin; refine wpList_app _ rfl _ _ 22 rfl 30 i30 (.agg #[.int .u32 0, .int .i64 0, .int .i64 0, .int .i64 0, .int .i64 0, .int .i64 0, .bool false]) 7 56 Try.underlying22 hi hz0 hz1 hz2 rfl (by decide) none 0 0 [] rfl _ n _ (cellsOf (rows l n)) rfl ?_ (RowAt.nil _ _ _) (by exact hsrc.out) (fun h => by cases h) (cellsOf_one _) (by simp only [maxLen]; omega) (by omega); intro a2 cap2 w3 hr3 hk3 hb3)
          obtain ⟨hr4, hk4, hg4⟩ := least_row hkp'.out ((Keeps.refl Nil wr).drewN nq) hr3 hk3 hb3
          have hl4 := Lib.hid (hl'.out.keeps hk4)
          obtain ⟨b2, off2, hbe, j0, j1, j2, j3, j4, j5, j6⟩ := hl4.out i hin
          cases hbe
          have hr4' := Lib.hid hr4
          have hk4' := Lib.hid hk4
          have hg4' := Lib.hid hg4
          clear hr3 hk3 hb3 hr4 hk4 hg4
          have h63 := Lib.hid (show n + 1 ≤ maxLen by simp only [maxLen]; omega)
          have h64 := Lib.hid (show (n + 1) * 56 ≤ 140737488355328 by omega)
          have hG := Lib.hid (withS_more (s := ⟨0, (l i).live + 1 + q, (l i).live + 20, 0, 0, 0, false⟩) hb'.out (by show _ < (l i).live + 1 + (q : Int); omega) (by omega))
          have e2 : (i == i) = true := by simp
          have s1 : IntKind.i64.wrap ((l i).live + 1) = (l i).live + 1 := IntWalk.i64_in _ (by omega)
          have s2 : IntKind.i64.wrap ((l i).live + 1 + ↑q) = (l i).live + 1 + ↑q := IntWalk.i64_in _ (by omega)
          have s3 : IntKind.i64.wrap ((l i).live + 20) = (l i).live + 20 := IntWalk.i64_in _ (by omega)
          go_region_law ((refine step_app _ (by rfl) _ _ 22 (by rfl) 30 i30 (.agg #[.int .u32 0, .int .i64 0, .int .i64 0, .int .i64 0, .int .i64 0, .int .i64 0, .bool false]) 7 56 Try.underlying22 hi hz0 hz1 hz2 rfl (by decide) _ n cap2 _ (by rfl) _ 1 1 (supC ⟨0, (l i).live + 1 + q, (l i).live + 20, 0, 0, 0, false⟩) (by rfl) (hr4'.out.keeps (((Keeps.refl Nil _).alloc _).drew) (fun _ _ h => h)) (src_sup (sup_drew (sup_new w3 ⟨0, (l i).live + 1 + q, (l i).live + 20, 0, 0, 0, false⟩ 30))) (fun h => by cases h) (supC_one' _) (by exact h63.out) (by exact h64.out) ?_; intro a5 cap5 w5 hr5 hk5 hb5))
          all_goals
            have hS := Lib.hid (sups_rows hr5 : SupsAt w5 a5 (n + 1) (withS l n ⟨0, (l i).live + 1 + q, (l i).live + 20, 0, 0, 0, false⟩))
            have hK5 := Lib.hid ((hk4'.out.trans (((Keeps.refl Nil w3).alloc _).drew)).trans' hk5 (fun j hj => .inr (hg4'.out j hj)))
            clear s1 s2 s3 hr5 hk5 hb5
            go_wp2_with fail
            refine (choose_val _ (n + 1) _ (withS l n ⟨0, (l i).live + 1 + q, (l i).live + 20, 0, 0, 0, false⟩) 1 i _ (by exact hS.out) (by exact h63.out) (by exact hG.out)).mono ?_
            rintro e w6 ⟨rfl, k6⟩
            have k6' := Lib.hid k6
            clear k6
            go_wp2_with fail
            go_ret
            exact ⟨rfl, hK5.out.trans k6'.out⟩
theorem least_any (a : Option Addr) (n cap : Nat) (l : Nat → Sup) (x : Int) (w : World) (hl : SupsAt w a n l) (hm : n ≤ maxLen) (hx0 : -9223372036854775808 ≤ x) (hx1 : x ≤ 9223372036854775807) (hby : n * 56 ≤ 140737488351232) :
    Calls Try.prog 5 #[.slice a n cap, .int .i64 x] w fun e w' => e = .returned (.bool true) ∧ Keeps Nil w w' := by
  rcases least_cases l n with ⟨hg, hno⟩ | ⟨i, hg, hb⟩
  · exact least_none a n cap l x w hl hm hg hno
  · exact least_some a n cap l x i w hl hm hx0 hx1 hby hg hb
end Go.Proofs.Ytiemfmkaofakoaa
