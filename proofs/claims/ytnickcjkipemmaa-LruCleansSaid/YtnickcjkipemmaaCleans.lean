/- LruCleans: the plain law and the walk -/
import Derived.Test.YtnickcjkipemmaaCleanX
import Derived.Test.YtnickcjkipemmaaStaysW
import Derived.IntWalk
namespace Go.Proofs.Ytnickcjkipemmaa
open Go.RowKit

theorem lpick_lclr {lo hi : Int} (L : List Ent) : lpick lo hi (lclr lo hi L) = [] := by
  unfold lpick lclr
  rw [List.filter_eq_nil_iff]
  intro e he
  obtain ⟨x, _, rfl⟩ := List.mem_map.1 he
  unfold clrE
  by_cases h : inR lo hi x = true
  · rw [if_pos h]; simp [inR]
  · rw [if_neg h]; exact h
theorem lpick_sub {lo hi : Int} {L L' : List Ent} (h : lpick lo hi L = []) (hs : ∀ x ∈ L', x ∈ L) : lpick lo hi L' = [] := by
  unfold lpick at h ⊢
  rw [List.filter_eq_nil_iff] at h ⊢
  exact fun x hx => h x (hs x hx)
theorem lpick_put {lo hi m k : Int} {L : List Ent} (h : lpick lo hi L = []) (h1 : lo ≤ k) (h2 : k < hi) : lpick lo hi (lput m ⟨k, 9, true⟩ L) = [⟨k, 9, true⟩] := by
  have hin : inR lo hi ⟨k, 9, true⟩ = true := by simp [inR, h1, h2]
  have cons : ∀ L', lpick lo hi L' = [] → lpick lo hi (⟨k, 9, true⟩ :: L') = [⟨k, 9, true⟩] := by
    intro L' h'
    unfold lpick at h' ⊢
    rw [List.filter_cons, if_pos hin, h']
  unfold lput
  cases hg : lget k L with
  | some x => simp only [Bool.or_true]; exact cons _ (lpick_sub h (fun y hy => ldel_sub hy))
  | none =>
    simp only
    split
    · exact cons _ (lpick_sub h (fun y hy => List.dropLast_subset _ hy))
    · exact cons _ h
theorem lclr_length {lo hi : Int} (L : List Ent) : (lclr lo hi L).length = L.length := by simp [lclr]
theorem CleanOf.mem {lo hi : Int} {L M : List Ent} (h : CleanOf lo hi L M) {j : Nat} (hj : j < M.length) : (M.getD j ent0).dirty = true ∧ lo ≤ (M.getD j ent0).key ∧ (M.getD j ent0).key < hi := by
  have e : M.getD j ent0 = M[j] := by simp [List.getD, hj]
  have hm : M[j] ∈ lpick lo hi L := h.1.mem_iff.1 (List.getElem_mem hj)
  unfold lpick at hm
  have := (List.mem_filter.1 hm).2
  unfold inR at this
  simp only [Bool.and_eq_true, decide_eq_true_eq] at this
  rw [e]
  exact ⟨this.1.1, this.1.2, this.2⟩
theorem CleanOf.up {lo hi : Int} {L M : List Ent} (h : CleanOf lo hi L M) {j : Nat} (h0 : 0 < j) (hj : j < M.length) : (M.getD (j - 1) ent0).key < (M.getD j ent0).key := by
  have e : M.getD j ent0 = M[j] := by simp [List.getD, hj]
  have hj1 : j - 1 < M.length := by omega
  have e1 : M.getD (j - 1) ent0 = M[j - 1] := by simp [List.getD, hj1]
  rw [e, e1]
  have := h.2
  unfold SortedK at this
  rw [List.pairwise_iff_getElem] at this
  exact this (j - 1) j hj1 hj (by omega)
theorem CleanOf.empty {lo hi : Int} {L M : List Ent} (h : CleanOf lo hi L M) (he : lpick lo hi L = []) : M = [] := by
  have := h.1
  rw [he] at this
  exact List.perm_nil.1 this
theorem CleanOf.one {lo hi : Int} {L M : List Ent} {x : Ent} (h : CleanOf lo hi L M) (he : lpick lo hi L = [x]) : M = [x] := by
  have := h.1
  rw [he] at this
  exact List.perm_singleton.1 this
theorem CacheIn.clean {w wr w' : World} {cb : Nat} {m lo hi : Int} {L : List Ent} {O : Nat → Prop} {e : Ending} (h : CacheIn w wr cb m L O) (hc : CleanOut wr cb m lo hi L O e w') :
    ∃ M a cap, e = .returned (.slice a M.length cap) ∧ CleanOf lo hi L M ∧ EntRow w' 32 a cap M ∧ (∀ g, blk a = some g → w.heap.size ≤ g ∧ ¬ O g) ∧ CacheIn w w' cb m (lclr lo hi L) O ∧ Keeps O wr w' := by
  obtain ⟨M, a, cap, h1, h2, h3, h4, h5, h6⟩ := hc
  refine ⟨M, a, cap, h1, h2, h3, fun g hg => ⟨Nat.le_trans h.keep.size (h4 g hg), fun ho => by have := h.lru.lt ho; have := h4 g hg; omega⟩, ⟨h5, by rw [lclr_length]; exact h.len, h.keep.trans' h6 (fun j hj => .inr (h.new j hj)), h.new⟩, h6⟩

set_option maxHeartbeats 8000000 in
set_option maxRecDepth 100000 in
theorem cleans_any (most lo hi : Int) (ax : Option Addr) (capx : Nat) (xs : List Int) (w : World) (h0 : -9223372036854775808 ≤ most) (h1 : most ≤ 9223372036854775807) (hx : IntsAt w ax xs) (hmx : xs.length ≤ maxLen) :
    Calls Try.prog 6 #[.int .i64 most, .slice ax xs.length capx, .int .i64 lo, .int .i64 hi] w fun e w' => e = .returned (.bool true) ∧ Keeps Nil w w' := by
  obtain ⟨a, ha⟩ : ∃ a, absI most = a := ⟨_, rfl⟩
  have ha0 : 0 ≤ a := by rw [← ha]; exact absI_nonneg _
  have hA := Lib.hid (fun W => abs_val most a W h0 h1 ha)
  have ham : 0 ≤ a % 40 := by omega
  have ham2 : a % 40 ≤ 39 := by omega
  have hmx2 : xs.length ≤ 9223372036854775807 := by unfold maxLen at hmx; omega
  have hx' := Lib.hid hx
  clear ha h0 h1 hx hmx
  go_enter Try.func6, Try.ntmps6
  go_wp2_with fail
  refine (awake_any w).mono ?_
  rintro e w1 ⟨rfl, hk1⟩
  have hk1' := Lib.hid hk1
  clear hk1
  go_wp2_with fail
  refine (hA.out _).mono ?_
  rintro e w2 ⟨rfl, rfl⟩
  go_wp2_with fail
  refine (newX (1 + a % 40) w1 (by omega)).mono ?_
  rintro e w2 ⟨cb, O, rfl, hL, hK, hO⟩
  have hC0 := Lib.hid (show CacheIn w w2 cb (1 + a % 40) [] O from ⟨hL, by simp; omega, hk1'.out.trans hK, fun k hk => by have := hO k hk; have := hk1'.out.size; omega⟩)
  clear hL hK hO hk1' hA
  go_wp2_with fail
  go_loopw [12] (fun i wr => ∃ (k : Nat) (L : List Ent) (O : Nat → Prop), (k : Int) ≤ 1 + a % 40 ∧ i = .int .i64 k ∧ CacheIn w wr cb (1 + a % 40) L O) (fun i _ => 40 - (intOf i).toNat)
  case atStart => exact ⟨0, [], O, by omega, rfl, hC0.out⟩
  case round =>
    obtain ⟨i, L, O2, hi', rfl, hC⟩ := hrel
    by_cases hin : i < xs.length ∧ (i : Int) < 1 + a % 40
    · obtain ⟨hi1, hi2⟩ := hin
      obtain ⟨b, off, rfl, hc⟩ := (hx'.out.keeps hC.keep (fun _ _ _ h => h)) i hi1
      have hw64 : IntKind.u64.wrap (i : Int) = (i : Int) := IntWalk.u64_in _ (by omega)
      have hP := Lib.hid (fun d => putX' hC.lru ⟨gi xs i, i, d⟩ hC.len (by omega))
      have hC' := Lib.hid hC
      clear hC
      cases hd : ((i : Int) % 3 == 2)
      all_goals
        have hd2 : ((i : Int) % 3 != 2) = !((i : Int) % 3 == 2) := rfl
        rw [hd] at hd2
        simp only [Bool.not_false, Bool.not_true] at hd2
        go_wp2_with fail
        refine (hP.out _).mono ?_
        intro e w3 h3
        obtain ⟨rfl, O3, hC3, _, _⟩ := hC'.out.put (by omega) h3
        have hC3' := Lib.hid hC3
        clear h3 hC3
        go_wp2_with fail
        go_roundw
        case rel => exact ⟨i + 1, _, O3, by omega, by go_num, hC3'.out⟩
        case measure => simp [intOf]; omega
    · have hcase : (i < xs.length ∧ ¬ (i : Int) < 1 + a % 40) ∨ ¬ i < xs.length := by omega
      have hle := hC.len
      have hCl := Lib.hid (cleanX (lo := lo) (hi := hi) hC.lru (by omega))
      have hC' := Lib.hid hC
      clear hC hin
      rcases hcase with ⟨hi1, hi2⟩ | hi1
      all_goals
        go_wp2_with fail
        refine (hCl.out).mono ?_
        intro e w3 h3
        obtain ⟨M, a3, cap3, rfl, hM, hr3, hb3, hC3, hk3⟩ := hC'.out.clean h3
        have hM' := Lib.hid hM
        have hr3' := Lib.hid hr3
        have hb3' := Lib.hid hb3
        have hC3' := Lib.hid hC3
        have hMl : M.length ≤ 40 := by have := hM.1.length_eq; have h5 := List.length_filter_le (inR lo hi) L; unfold lpick at this; omega
        have hp3 := Lib.hid (lpick_lclr (lo := lo) (hi := hi) L)
        obtain ⟨L3, hL3⟩ : ∃ L3, lclr lo hi L = L3 := ⟨_, rfl⟩
        rw [hL3] at hC3' hp3
        clear h3 hM hr3 hb3 hC3 hk3 hL3 hCl hC'
        go_wp2_with fail
        go_loopw [14] (fun z wx => ∃ q : Nat, q ≤ M.length ∧ z = .int .i64 q ∧ Keeps Nil w3 wx) (fun z _ => M.length - (intOf z).toNat)
        case atStart => exact ⟨0, Nat.zero_le _, rfl, Keeps.refl _ _⟩
        case round =>
          obtain ⟨q, hq, rfl, hkx⟩ := hrel
          by_cases hlt : q < M.length
          · have hrx := hr3'.out.keeps hkx (fun _ _ h => h)
            obtain ⟨g3, rfl, hent⟩ := EntRow.at' hrx hlt
            obtain ⟨m1, m2, m3⟩ := hM'.out.mem hlt
            obtain ⟨e3, he3⟩ : ∃ e3, M.getD q ent0 = e3 := ⟨_, rfl⟩
            rw [he3] at hent m1 m2 m3
            have c0 := hent.key
            have c2 := hent.dirty
            rw [m1] at c2
            have d1 : decide (e3.key < lo) = false := decide_eq_false (by omega)
            have d2 : decide (hi ≤ e3.key) = false := decide_eq_false (by omega)
            have hkx' := Lib.hid hkx
            by_cases hq0 : q = 0
            · have d3 : decide ((0 : Int) < (q : Int)) = false := decide_eq_false (by omega)
              have d3' : decide (0 < q) = false := decide_eq_false (by omega)
              clear hkx hent he3 hrx m1 m2 m3 hq0
              go_wp2_with fail
              go_quiet (fail)
              go_wp2_with fail
              go_roundw
              case rel => exact ⟨q + 1, by omega, by go_num, hkx'.out.drewN _⟩
              case measure => simp [intOf]; omega
            · have d3 : decide ((0 : Int) < (q : Int)) = true := decide_eq_true (by omega)
              have d3' : decide (0 < q) = true := decide_eq_true (by omega)
              have hup := hM'.out.up (by omega) hlt
              rw [he3] at hup
              obtain ⟨q1, hq1⟩ : ∃ q1, q - 1 = q1 := ⟨_, rfl⟩
              have hq1l : q1 < M.length := by omega
              obtain ⟨g4, hg4, hent4⟩ := EntRow.at' hrx hq1l
              cases hg4
              rw [hq1] at hup
              obtain ⟨k4, hk4⟩ : ∃ k4, (M.getD q1 ent0).key = k4 := ⟨_, rfl⟩
              have c4 := hent4.key
              rw [hk4] at hup c4
              have d4 : decide (e3.key ≤ k4) = false := decide_eq_false (by omega)
              have hs1 : IntKind.i64.wrap ((q : Int) - 1) = (q1 : Int) := by rw [IntWalk.i64_in _ (by omega)]; omega
              clear hkx hent he3 hrx m1 m2 m3 hq0 hup hent4 hk4 hq1
              go_wp2_with fail
              go_quiet (fail)
              clear hs1
              go_wp2_with fail
              go_roundw
              case rel => exact ⟨q + 1, by omega, by go_num, hkx'.out.drewN _⟩
              case measure => simp [intOf]; omega
          · have hC4 := Lib.hid (hC3'.out.nil hkx)
            have hr4 := Lib.hid (hr3'.out.keeps hkx (fun _ _ h => h))
            have hle4 := hC3'.out.len
            have hCl4 := Lib.hid (cleanX (lo := lo) (hi := hi) hC4.out.lru (by omega))
            clear hkx
            go_wp2_with fail
            refine (hCl4.out).mono ?_
            intro e w5 h3
            obtain ⟨M5, a5, cap5, rfl, hM5, hr5, hb5, hC5, hk5⟩ := hC4.out.clean h3
            obtain rfl := hM5.empty hp3.out
            have hr6 := Lib.hid (hr4.out.keeps hk5 (fun g hg => (hb3'.out g hg).2))
            have hp5 := Lib.hid (lpick_lclr (lo := lo) (hi := hi) L3)
            obtain ⟨L5, hL5⟩ : ∃ L5, lclr lo hi L3 = L5 := ⟨_, rfl⟩
            rw [hL5] at hC5 hp5
            have hK5 := Lib.hid hC5.keep
            have hC5' := Lib.hid hC5
            have hln : (([] : List Ent).length == 0) = true := rfl
            clear h3 hM5 hr5 hb5 hC5 hk5 hL5 hCl4
            by_cases hM0 : M = []
            · subst hM0
              go_wp2_with fail
              go_ret
              exact ⟨rfl, hK5.out⟩
            · have hpos : 0 < M.length := List.length_pos_iff.2 hM0
              have e1 : (M.length == 0) = false := by simpa using hM0
              have e2 : ((M.length : Int) == 0) = false := by simpa using hM0
              have e3 : M.isEmpty = false := by cases M with | nil => simp at hpos | cons x y => rfl
              obtain ⟨g6, rfl, hent⟩ := EntRow.at' hr6.out hpos
              obtain ⟨m1, m2, m3⟩ := hM'.out.mem hpos
              obtain ⟨k6, hk6⟩ : ∃ k6, (M.getD 0 ent0).key = k6 := ⟨_, rfl⟩
              have c6 : w5.cell? ⟨g6, 0, none⟩ = some (.int .i64 k6) := by have := hent.key; rw [hk6, Nat.zero_mul] at this; exact this
              rw [hk6] at m2 m3
              have hP := Lib.hid (putX' hC5'.out.lru ⟨k6, 9, true⟩ hC5'.out.len (by omega))
              have hg6 := Lib.hid (hb3'.out g6 rfl)
              have hc6 := Lib.hid c6
              have hpp := Lib.hid (lpick_put (m := 1 + a % 40) hp5.out m2 m3)
              clear hent hk6 m1 m2 m3 hM0
              go_wp2_with fail
              refine (hP.out).mono ?_
              intro e w7 h3
              obtain ⟨rfl, O7, hC7, hk7, hn7⟩ := hC5'.out.put (by omega) h3
              have c7 := Lib.hid (hk7.cell hc6.out hg6.out.2)
              have hno7 := Lib.hid (hn7 g6 (lt_of_cell hc6.out) hg6.out.2)
              have hle7 := hC7.len
              obtain ⟨L7, hL7⟩ : ∃ L7, lput (1 + a % 40) ⟨k6, 9, true⟩ L5 = L7 := ⟨_, rfl⟩
              rw [hL7] at hC7 hpp hle7
              have hCl7 := Lib.hid (cleanX (lo := lo) (hi := hi) hC7.lru (by omega))
              have hC7' := Lib.hid hC7
              clear h3 hC7 hk7 hn7 hL7 hP c6
              go_wp2_with fail
              refine (hCl7.out).mono ?_
              intro e w8 h3
              obtain ⟨M8, a8, cap8, rfl, hM8, hr8, hb8, hC8, hk8⟩ := hC7'.out.clean h3
              obtain rfl := hM8.one hpp.out
              have c8 := hk8.cell c7.out hno7.out
              obtain ⟨g8, rfl, hent8⟩ := EntRow.at' hr8 (show 0 < [(⟨k6, 9, true⟩ : Ent)].length from Nat.succ_pos _)
              have q0 : w8.cell? ⟨g8, 0, none⟩ = some (.int .i64 k6) := hent8.key
              have q1 : w8.cell? ⟨g8, 1, none⟩ = some (.int .u64 9) := hent8.val
              have hkk : (k6 == k6) = true := by simp
              have hK8 := Lib.hid hC8.keep
              clear h3 hM8 hr8 hb8 hC8 hk8 hent8 hCl7
              go_wp2_with fail
              go_quiet (fail)
              go_wp2_with fail
              go_ret
              exact ⟨rfl, hK8.out.drewN _⟩
end Go.Proofs.Ytnickcjkipemmaa
