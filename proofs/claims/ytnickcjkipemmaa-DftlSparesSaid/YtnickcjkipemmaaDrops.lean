/- LruDrops: the plain law and the walk -/
import Derived.Test.YtnickcjkipemmaaAwake
namespace Go.Proofs.Ytnickcjkipemmaa
open Go.RowKit

theorem ldel_keys {k : Int} : ∀ L : List Ent, (ldel k L).map (·.key) = (L.map (·.key)).erase k
  | [] => rfl
  | e :: r => by
    rw [ldel, List.map_cons]
    by_cases h : e.key = k
    · rw [if_pos h, h, List.erase_cons_head]
    · rw [if_neg h, List.map_cons, List.erase_cons_tail (by simpa using h), ldel_keys r]
theorem ldel_absent {k : Int} {L : List Ent} (h : lhas k L = false) : ldel k L = L := by
  induction L with
  | nil => rfl
  | cons e r ih =>
    rw [lhas_false] at h ih
    simp only [List.map_cons, List.mem_cons, not_or] at h
    rw [ldel, if_neg (Ne.symm h.1), ih h.2]
theorem lget_cons {e : Ent} {L : List Ent} : lget e.key (e :: L) = some e := by rw [lget, if_pos rfl]
theorem ldel_cons {e : Ent} {L : List Ent} : ldel e.key (e :: L) = L := by rw [ldel, if_pos rfl]

theorem drops_law {m : Int} {L : List Ent} {key other : Int} (h : (L.length : Int) + 1 ≤ m) (ho : other ∉ L.map (·.key)) (hnd : (L.map (·.key)).Nodup) :
    ∃ L2, lput m ⟨key, 3, true⟩ L = ⟨key, 3, true⟩ :: L2 ∧ lhas key L2 = false ∧ (L2.length : Int) + 1 ≤ m ∧ lfull m ⟨other, 0, false⟩ L2 = false ∧ ((lput m ⟨other, 0, false⟩ L2).length : Int) ≤ m := by
  have main : ∀ L2 : List Ent, lhas key L2 = false → (L2.length : Int) + 1 ≤ m → other ∉ L2.map (·.key) → lhas key L2 = false ∧ (L2.length : Int) + 1 ≤ m ∧ lfull m ⟨other, 0, false⟩ L2 = false ∧ ((lput m ⟨other, 0, false⟩ L2).length : Int) ≤ m := by
    intro L2 h1 h2 h3
    have h4 := lhas_false.2 h3
    refine ⟨h1, h2, ?_, lput_length (by omega) (by omega)⟩
    unfold lfull
    unfold lhas at h4
    cases hg : lget other L2 with
    | none => simp only; exact decide_eq_false (by omega)
    | some x => rfl
  cases hg : lget key L with
  | some x =>
    refine ⟨ldel key L, by unfold lput; rw [hg]; simp, main _ ?_ ?_ ?_⟩
    · rw [lhas_false, ldel_keys]; exact hnd.not_mem_erase
    · rw [ldel_length]; omega
    · rw [ldel_keys]; exact fun hm => ho (List.mem_of_mem_erase hm)
  | none =>
    have hh : lhas key L = false := by unfold lhas; rw [hg]; rfl
    refine ⟨L, by unfold lput; rw [hg]; simp only; rw [if_neg (by omega)], main _ hh h ho⟩

/-- what the loop keeps -/
def DropsRel (w : World) (cb : Nat) (m other : Int) (n : Nat) (wr : World) : Prop :=
  ∃ L O, LruX wr cb m L O ∧ L.length ≤ n ∧ other ∉ L.map (·.key) ∧ Keeps Nil w wr ∧ ∀ k, O k → w.heap.size ≤ k
theorem cache_step {w wr w' : World} {cb : Nat} {m : Int} {O : Nat → Prop} {v : Value} {L' : List Ent} {e : Ending} (hk : Keeps Nil w wr) (hO : ∀ k, O k → w.heap.size ≤ k) (h : CacheOut wr cb m O v L' e w') :
    e = .returned v ∧ ∃ O', LruX w' cb m L' O' ∧ Keeps Nil w w' ∧ ∀ k, O' k → w.heap.size ≤ k := by
  obtain ⟨h1, O', h2, h3, h4⟩ := h
  refine ⟨h1, O', h2, hk.trans' h3 (fun j hj => .inr (hO j hj)), fun k hk' => ?_⟩
  rcases h4 k hk' with h5 | h5
  · exact hO k h5
  · have := hk.size; omega
/-- .. and what else the call has made stays -/
theorem cache_step2 {w wr w' : World} {cb : Nat} {m : Int} {O : Nat → Prop} {v : Value} {L' : List Ent} {e : Ending} (hk : Keeps Nil w wr) (hO : ∀ k, O k → w.heap.size ≤ k) (h : CacheOut wr cb m O v L' e w') :
    e = .returned v ∧ ∃ O', LruX w' cb m L' O' ∧ Keeps Nil w w' ∧ (∀ k, O' k → w.heap.size ≤ k) ∧ Keeps O wr w' ∧ ∀ g, g < wr.heap.size → ¬ O g → ¬ O' g := by
  obtain ⟨h1, O', h2, h3, h4⟩ := h
  refine ⟨h1, O', h2, hk.trans' h3 (fun j hj => .inr (hO j hj)), fun k hk' => ?_, h3, fun g hg hn ho => ?_⟩
  · rcases h4 k hk' with h5 | h5
    · exact hO k h5
    · have := hk.size; omega
  · rcases h4 g ho with h5 | h5
    · exact hn h5
    · omega

theorem lput_keys {m : Int} {e : Ent} {L : List Ent} {x : Int} (h : x ∈ (lput m e L).map (·.key)) : x = e.key ∨ x ∈ L.map (·.key) := by
  unfold lput at h
  cases hg : lget e.key L with
  | some y =>
    rw [hg] at h
    simp only [List.map_cons, List.mem_cons] at h
    rcases h with h | h
    · exact .inl h
    · rw [ldel_keys] at h
      exact .inr (List.mem_of_mem_erase h)
  | none =>
    rw [hg] at h
    simp only at h
    split at h
    · simp only [List.map_cons, List.mem_cons] at h
      rcases h with h | h
      · exact .inl h
      · obtain ⟨y, hy, rfl⟩ := List.mem_map.1 h
        exact .inr (List.mem_map_of_mem (f := fun x : Ent => x.key) (List.dropLast_subset _ hy))
    · simp only [List.map_cons, List.mem_cons] at h
      exact h
theorem drops_notin {m k other : Int} {L : List Ent} (hne : ¬ k = other) (h : other ∉ L.map (·.key)) : other ∉ (lput m ⟨k, 0, false⟩ L).map (·.key) := by
  intro hm
  rcases lput_keys hm with e | e
  · exact hne e.symm
  · exact h e

set_option maxHeartbeats 4000000 in
set_option maxRecDepth 100000 in
theorem drops_any (most key other : Int) (w : World) (h0 : -9223372036854775808 ≤ most) (h1 : most ≤ 9223372036854775807) (k0 : -9223372036854775808 ≤ key) (k1 : key ≤ 9223372036854775807) (o0 : -9223372036854775808 ≤ other) (o1 : other ≤ 9223372036854775807) :
    Calls Try.prog 4 #[.int .i64 most, .int .i64 key, .int .i64 other] w fun e w' => e = .returned (.bool true) ∧ Keeps Nil w w' := by
  obtain ⟨a, ha⟩ : ∃ a, absI most = a := ⟨_, rfl⟩
  have ha0 : 0 ≤ a := by rw [← ha]; exact absI_nonneg _
  have hA := Lib.hid (fun W => abs_val most a W h0 h1 ha)
  have ham : 0 ≤ a % 10 := by omega
  have ham2 : a % 10 ≤ 9 := by omega
  clear ha h0 h1
  go_enter Try.func4, Try.ntmps4
  go_wp2_with fail
  refine (awake_any w).mono ?_
  rintro e w1 ⟨rfl, hk1⟩
  have hk1' := Lib.hid hk1
  clear hk1
  go_wp2_with fail
  refine (hA.out _).mono ?_
  rintro e w2 ⟨rfl, rfl⟩
  go_wp2_with fail
  refine (newX (1 + a % 10) w1 (by omega)).mono ?_
  rintro e w2 ⟨cb, O, rfl, hL, hK, hO⟩
  have hK' := Lib.hid (hk1'.out.trans hK)
  have hO' := Lib.hid (show ∀ k, O k → w.heap.size ≤ k from fun k hk => by have := hO k hk; have := hk1'.out.size; omega)
  have hL' := Lib.hid hL
  clear hL hK hO hk1' hA
  by_cases hko : key = other
  · subst hko
    have hkk : (key == key) = true := by simp
    go_wp2_with fail
    go_ret
    exact ⟨rfl, hK'.out⟩
  · have hkk : (key == other) = false := by simpa using hko
    have hko' := Lib.hid hko
    clear hko
    obtain ⟨b, hb, hb0, hb1⟩ : ∃ b : Int, ((1099511627776 < key ∧ b = key - 2199023255552) ∨ (¬ 1099511627776 < key ∧ b = key)) ∧ -9223372036854775808 ≤ b ∧ b ≤ 9223372036854775000 := by
      by_cases h : 1099511627776 < key
      · exact ⟨key - 2199023255552, .inl ⟨h, rfl⟩, by omega, by omega⟩
      · exact ⟨key, .inr ⟨h, rfl⟩, by omega, by omega⟩
    rcases hb with ⟨hbig, rfl⟩ | ⟨hbig, rfl⟩
    · skip
      go_wp2_with fail
      go_loopw [11, 12, 13] (fun n i k wr => ∃ n' i' : Nat, n = .int .i64 n' ∧ i = .int .i64 i' ∧ 1 ≤ i' ∧ i' ≤ 40 ∧ n' + 1 ≤ i' ∧ (n' : Int) ≤ a % 10 ∧ DropsRel w cb (1 + a % 10) other n' wr) (fun _ i _ _ => 40 - (intOf i).toNat)
      case atStart => exact ⟨0, 1, rfl, rfl, by omega, by omega, by omega, by omega, [], O, hL'.out, by simp, by simp, hK'.out, hO'.out⟩
      case round =>
        obtain ⟨n, i, rfl, rfl, hi1, hi2, hni, hna, L, O2, hL2, hlen, hoth, hK2, hO2⟩ := hrel
        have hnd := Lib.hid hL2.nodup
        have hK2' := Lib.hid hK2
        have hO2' := Lib.hid hO2
        have hL2' := Lib.hid hL2
        have hoth' := Lib.hid hoth
        clear hL2 hK2 hO2 hoth
        by_cases hin : (n : Int) < a % 10 ∧ i < 40
        · obtain ⟨hn1, hi3⟩ := hin
          have hC0 := putX' hL2'.out ⟨(key - 2199023255552) + (i : Int), 0, false⟩ (by omega) (by omega)
          have hC := Lib.hid hC0
          clear hC0
          by_cases hne : (key - 2199023255552) + (i : Int) = other
          · have e1 : ((key - 2199023255552) + (i : Int) == other) = true := by simpa using hne
            have e2 : ((key - 2199023255552) + (i : Int) != other) = false := by simpa using hne
            clear hne
            go_wp2_with fail
            go_roundw
            case rel => exact ⟨n, i + 1, rfl, by go_num, by omega, by omega, by omega, by omega, L, O2, hL2'.out, hlen, hoth'.out, hK2'.out, hO2'.out⟩
            case measure => simp [intOf]; omega
          · have e1 : ((key - 2199023255552) + (i : Int) == other) = false := by simpa using hne
            have e2 : ((key - 2199023255552) + (i : Int) != other) = true := by simpa using hne
            have hne' := Lib.hid hne
            clear hne
            go_wp2_with fail
            refine (hC.out).mono ?_
            intro e w3 h3
            obtain ⟨rfl, O3, h4, h5, h6⟩ := cache_step hK2'.out hO2'.out h3
            have hrel := Lib.hid (show DropsRel w cb (1 + a % 10) other (n + 1) w3 from ⟨_, O3, h4, by have := @lput_new_length (1 + a % 10) ⟨(key - 2199023255552) + (i : Int), 0, false⟩ L; omega, drops_notin (by exact hne'.out) hoth'.out, h5, h6⟩)
            clear h3 h4 h5 h6
            go_wp2_with fail
            go_roundw
            case rel => exact ⟨n + 1, i + 1, by go_num, by go_num, by omega, by omega, by omega, by omega, hrel.out⟩
            case measure => simp [intOf]; omega
        · have hcase : ((n : Int) < a % 10 ∧ ¬ i < 40) ∨ ¬ (n : Int) < a % 10 := by omega
          clear hin
          rcases hcase with ⟨hn1, hi3⟩ | hn1
          all_goals
            obtain ⟨L3, p1, p2, p3, p4, p5⟩ := drops_law (m := 1 + a % 10) (L := L) (key := key) (other := other) (by omega) hoth'.out hnd.out
            have hfr : lfront key L3 = L3 := by
              unfold lfront
              unfold lhas at p2
              cases hg : lget key L3 with
              | none => rfl
              | some x => rw [hg] at p2; cases p2
            have hC0 := putX' hL2'.out ⟨key, 3, true⟩ (by omega) (by omega)
            rw [p1] at hC0
            have hC := Lib.hid hC0
            have p1' := Lib.hid p1
            have p2' := Lib.hid p2
            have p4' := Lib.hid p4
            have hfr' := Lib.hid hfr
            clear hC0 p1 p2 p4 hfr
            go_wp2_with fail
            refine (hC.out).mono ?_
            intro e w3 h3
            obtain ⟨rfl, O3, h4, h5, h6⟩ := cache_step hK2'.out hO2'.out h3
            have hD0 := dropX h4 key
            rw [show lent key (⟨key, 3, true⟩ :: L3) = ⟨key, 3, true⟩ by unfold lent; rw [lget, if_pos rfl], show lhas key (⟨key, 3, true⟩ :: L3) = true by unfold lhas; rw [lget, if_pos rfl]; rfl, show ldel key (⟨key, 3, true⟩ :: L3) = L3 by rw [ldel, if_pos rfl]] at hD0
            unfold entV at hD0
            have hD := Lib.hid hD0
            have hK3 := Lib.hid h5
            have hO3 := Lib.hid h6
            clear h3 h4 h5 h6 hD0 hC
            go_wp2_with fail
            refine (hD.out).mono ?_
            intro e w4 h3
            obtain ⟨rfl, O4, h4, h5, h6⟩ := cache_step hK3.out hO3.out h3
            have hG0 := getX (h4.nil ((Keeps.refl Nil w4).alloc (.cells #[.int .i64 key, .int .u64 3, .bool true] 32))) key
            rw [p2'.out, hfr'.out] at hG0
            have hG := Lib.hid hG0
            have hK4 := Lib.hid (h5.alloc (.cells #[.int .i64 key, .int .u64 3, .bool true] 32))
            have hO4 := Lib.hid h6
            have hb4 := Lib.hid (heap_alloc_new w4 (.cells #[.int .i64 key, .int .u64 3, .bool true] 32))
            have hn4 := Lib.hid (show ¬ O4 w4.heap.size from fun ho => by have := h4.lt ho; omega)
            clear h3 h4 h5 h6 hG0 hD
            go_wp2_with fail
            refine (hG.out).mono ?_
            intro e w5 h3
            obtain ⟨rfl, O5, h4, h5, h6, h7, h8⟩ := cache_step2 hK4.out hO4.out h3
            have hb5 := h7.heap hb4.out hn4.out
            have hn5 := h8 w4.heap.size (by simp) hn4.out
            have hP0 := putX' h4 ⟨other, 0, false⟩ (by omega) (by omega)
            rw [p4'.out] at hP0
            have hP := Lib.hid hP0
            have hK5 := Lib.hid h5
            have hO5 := Lib.hid h6
            have hb5' := Lib.hid hb5
            have hn5' := Lib.hid hn5
            clear h3 h4 h5 h6 h7 h8 hP0 hG hb5 hn5
            go_wp2_with fail
            refine (hP.out).mono ?_
            intro e w6 h3
            obtain ⟨rfl, O6, h4, h5, h6, h7, h8⟩ := cache_step2 hK5.out hO5.out h3
            have hb6 := h7.heap hb5'.out hn5'.out
            have c0 : w6.cell? ⟨w4.heap.size, 0, none⟩ = some (.int .i64 key) := cell_of_heap hb6 0
            have c1 : w6.cell? ⟨w4.heap.size, 1, none⟩ = some (.int .u64 3) := cell_of_heap hb6 1
            have c2 : w6.cell? ⟨w4.heap.size, 2, none⟩ = some (.bool true) := cell_of_heap hb6 2
            obtain ⟨gk, gv, gd, hgone⟩ : ∃ gk gv gd, entV (lgone (1 + a % 10) ⟨other, 0, false⟩ L3) = .agg #[.int .i64 gk, .int .u64 gv, .bool gd] := ⟨_, _, _, rfl⟩
            rw [hgone]
            have hkk3 : (key == key) = true := by simp
            have hLn := Lib.hid (lenX (h4.nil ((Keeps.refl Nil w6).alloc (.cells #[.int .i64 gk, .int .u64 gv, .bool gd] 32))))
            have hK6 := Lib.hid (h5.alloc (.cells #[.int .i64 gk, .int .u64 gv, .bool gd] 32))
            have hlt6 := lt_of_cell c0
            clear h3 h4 h5 h6 h7 h8 hP hb6 hgone
            go_wp2_with fail
            refine (hLn.out).mono ?_
            rintro e w7 ⟨rfl, rfl⟩
            have hle : decide (((lput (1 + a % 10) ⟨other, 0, false⟩ L3).length : Int) ≤ 1 + a % 10) = true := decide_eq_true p5
            go_wp2_with fail
            go_ret
            exact ⟨rfl, hK6.out⟩
    · skip
      go_wp2_with fail
      go_loopw [11, 12, 13] (fun n i k wr => ∃ n' i' : Nat, n = .int .i64 n' ∧ i = .int .i64 i' ∧ 1 ≤ i' ∧ i' ≤ 40 ∧ n' + 1 ≤ i' ∧ (n' : Int) ≤ a % 10 ∧ DropsRel w cb (1 + a % 10) other n' wr) (fun _ i _ _ => 40 - (intOf i).toNat)
      case atStart => exact ⟨0, 1, rfl, rfl, by omega, by omega, by omega, by omega, [], O, hL'.out, by simp, by simp, hK'.out, hO'.out⟩
      case round =>
        obtain ⟨n, i, rfl, rfl, hi1, hi2, hni, hna, L, O2, hL2, hlen, hoth, hK2, hO2⟩ := hrel
        have hnd := Lib.hid hL2.nodup
        have hK2' := Lib.hid hK2
        have hO2' := Lib.hid hO2
        have hL2' := Lib.hid hL2
        have hoth' := Lib.hid hoth
        clear hL2 hK2 hO2 hoth
        by_cases hin : (n : Int) < a % 10 ∧ i < 40
        · obtain ⟨hn1, hi3⟩ := hin
          have hC0 := putX' hL2'.out ⟨b + (i : Int), 0, false⟩ (by omega) (by omega)
          have hC := Lib.hid hC0
          clear hC0
          by_cases hne : b + (i : Int) = other
          · have e1 : (b + (i : Int) == other) = true := by simpa using hne
            have e2 : (b + (i : Int) != other) = false := by simpa using hne
            clear hne
            go_wp2_with fail
            go_roundw
            case rel => exact ⟨n, i + 1, rfl, by go_num, by omega, by omega, by omega, by omega, L, O2, hL2'.out, hlen, hoth'.out, hK2'.out, hO2'.out⟩
            case measure => simp [intOf]; omega
          · have e1 : (b + (i : Int) == other) = false := by simpa using hne
            have e2 : (b + (i : Int) != other) = true := by simpa using hne
            have hne' := Lib.hid hne
            clear hne
            go_wp2_with fail
            refine (hC.out).mono ?_
            intro e w3 h3
            obtain ⟨rfl, O3, h4, h5, h6⟩ := cache_step hK2'.out hO2'.out h3
            have hrel := Lib.hid (show DropsRel w cb (1 + a % 10) other (n + 1) w3 from ⟨_, O3, h4, by have := @lput_new_length (1 + a % 10) ⟨b + (i : Int), 0, false⟩ L; omega, drops_notin (by exact hne'.out) hoth'.out, h5, h6⟩)
            clear h3 h4 h5 h6
            go_wp2_with fail
            go_roundw
            case rel => exact ⟨n + 1, i + 1, by go_num, by go_num, by omega, by omega, by omega, by omega, hrel.out⟩
            case measure => simp [intOf]; omega
        · have hcase : ((n : Int) < a % 10 ∧ ¬ i < 40) ∨ ¬ (n : Int) < a % 10 := by omega
          clear hin
          rcases hcase with ⟨hn1, hi3⟩ | hn1
          all_goals
            obtain ⟨L3, p1, p2, p3, p4, p5⟩ := drops_law (m := 1 + a % 10) (L := L) (key := b) (other := other) (by omega) hoth'.out hnd.out
            have hfr : lfront b L3 = L3 := by
              unfold lfront
              unfold lhas at p2
              cases hg : lget b L3 with
              | none => rfl
              | some x => rw [hg] at p2; cases p2
            have hC0 := putX' hL2'.out ⟨b, 3, true⟩ (by omega) (by omega)
            rw [p1] at hC0
            have hC := Lib.hid hC0
            have p1' := Lib.hid p1
            have p2' := Lib.hid p2
            have p4' := Lib.hid p4
            have hfr' := Lib.hid hfr
            clear hC0 p1 p2 p4 hfr
            go_wp2_with fail
            refine (hC.out).mono ?_
            intro e w3 h3
            obtain ⟨rfl, O3, h4, h5, h6⟩ := cache_step hK2'.out hO2'.out h3
            have hD0 := dropX h4 b
            rw [show lent b (⟨b, 3, true⟩ :: L3) = ⟨b, 3, true⟩ by unfold lent; rw [lget, if_pos rfl], show lhas b (⟨b, 3, true⟩ :: L3) = true by unfold lhas; rw [lget, if_pos rfl]; rfl, show ldel b (⟨b, 3, true⟩ :: L3) = L3 by rw [ldel, if_pos rfl]] at hD0
            unfold entV at hD0
            have hD := Lib.hid hD0
            have hK3 := Lib.hid h5
            have hO3 := Lib.hid h6
            clear h3 h4 h5 h6 hD0 hC
            go_wp2_with fail
            refine (hD.out).mono ?_
            intro e w4 h3
            obtain ⟨rfl, O4, h4, h5, h6⟩ := cache_step hK3.out hO3.out h3
            have hG0 := getX (h4.nil ((Keeps.refl Nil w4).alloc (.cells #[.int .i64 b, .int .u64 3, .bool true] 32))) b
            rw [p2'.out, hfr'.out] at hG0
            have hG := Lib.hid hG0
            have hK4 := Lib.hid (h5.alloc (.cells #[.int .i64 b, .int .u64 3, .bool true] 32))
            have hO4 := Lib.hid h6
            have hb4 := Lib.hid (heap_alloc_new w4 (.cells #[.int .i64 b, .int .u64 3, .bool true] 32))
            have hn4 := Lib.hid (show ¬ O4 w4.heap.size from fun ho => by have := h4.lt ho; omega)
            clear h3 h4 h5 h6 hG0 hD
            go_wp2_with fail
            refine (hG.out).mono ?_
            intro e w5 h3
            obtain ⟨rfl, O5, h4, h5, h6, h7, h8⟩ := cache_step2 hK4.out hO4.out h3
            have hb5 := h7.heap hb4.out hn4.out
            have hn5 := h8 w4.heap.size (by simp) hn4.out
            have hP0 := putX' h4 ⟨other, 0, false⟩ (by omega) (by omega)
            rw [p4'.out] at hP0
            have hP := Lib.hid hP0
            have hK5 := Lib.hid h5
            have hO5 := Lib.hid h6
            have hb5' := Lib.hid hb5
            have hn5' := Lib.hid hn5
            clear h3 h4 h5 h6 h7 h8 hP0 hG hb5 hn5
            go_wp2_with fail
            refine (hP.out).mono ?_
            intro e w6 h3
            obtain ⟨rfl, O6, h4, h5, h6, h7, h8⟩ := cache_step2 hK5.out hO5.out h3
            have hb6 := h7.heap hb5'.out hn5'.out
            have c0 : w6.cell? ⟨w4.heap.size, 0, none⟩ = some (.int .i64 b) := cell_of_heap hb6 0
            have c1 : w6.cell? ⟨w4.heap.size, 1, none⟩ = some (.int .u64 3) := cell_of_heap hb6 1
            have c2 : w6.cell? ⟨w4.heap.size, 2, none⟩ = some (.bool true) := cell_of_heap hb6 2
            obtain ⟨gk, gv, gd, hgone⟩ : ∃ gk gv gd, entV (lgone (1 + a % 10) ⟨other, 0, false⟩ L3) = .agg #[.int .i64 gk, .int .u64 gv, .bool gd] := ⟨_, _, _, rfl⟩
            rw [hgone]
            have hkk3 : (b == b) = true := by simp
            have hLn := Lib.hid (lenX (h4.nil ((Keeps.refl Nil w6).alloc (.cells #[.int .i64 gk, .int .u64 gv, .bool gd] 32))))
            have hK6 := Lib.hid (h5.alloc (.cells #[.int .i64 gk, .int .u64 gv, .bool gd] 32))
            have hlt6 := lt_of_cell c0
            clear h3 h4 h5 h6 h7 h8 hP hb6 hgone
            go_wp2_with fail
            refine (hLn.out).mono ?_
            rintro e w7 ⟨rfl, rfl⟩
            have hle : decide (((lput (1 + a % 10) ⟨other, 0, false⟩ L3).length : Int) ≤ 1 + a % 10) = true := decide_eq_true p5
            go_wp2_with fail
            go_ret
            exact ⟨rfl, hK6.out⟩
end Go.Proofs.Ytnickcjkipemmaa
