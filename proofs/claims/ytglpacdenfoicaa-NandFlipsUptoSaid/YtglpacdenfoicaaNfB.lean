/- NandFlips: the walk -/
import Derived.Test.YtglpacdenfoicaaNfA
import Derived.Test.YtglpacdenfoicaaNeW
import Derived.Test.YtglpacdenfoicaaNeY
import Derived.StillTailTactics
namespace Go.Proofs.Ytglpacdenfoicaa
open Go.RowKit

/-- the bits that are turned -/
def flL (X : List Int) (n k : Nat) : List Int := (List.range k).map (fun j => absI (gi X j) % (8 * (n : Int)))
theorem flL_len (X : List Int) (n k : Nat) : (flL X n k).length = k := by simp [flL]
theorem flL_succ (X : List Int) (n k : Nat) : flL X n (k + 1) = flL X n k ++ [absI (gi X k) % (8 * (n : Int))] := by simp [flL, List.range_succ]
theorem flL_in {X : List Int} {n k : Nat} (hn : 1 ≤ n) : ∀ y ∈ flL X n k, 0 ≤ y ∧ y < 8 * (n : Int) := by
  intro y hy
  obtain ⟨j, _, rfl⟩ := List.mem_map.1 hy
  exact ⟨Int.emod_nonneg _ (by omega), Int.emod_lt_of_pos _ (by omega)⟩
theorem run_field40 (v0 v1 v2 v3 v4 v5 : Value) (w : World) : (Instr.field 40 (.agg #[v0, v1, v2, v3, v4, v5]) 3).run Try.prog w = .ok v3 w := by kernel_rfl
theorem numRow_push {k : IntKind} {E : TypeId} {w5 : World} {a5 : Option Addr} {m cap5 : Nat} {ys : List Int} {v : Int} (hm : ys.length = m) (hr5 : RowAt w5 E 1 a5 (m + 1) cap5 (ys.map (Value.int k) ++ [Value.int k v])) : NumRow k w5 E a5 cap5 (ys ++ [v]) := by
  subst hm
  unfold NumRow
  rw [List.length_append, List.map_append]
  exact hr5
variable {w0 wr w' : World} {ab n tm i : Nat} {L l W : List Int} {A : Nd} {O : Nat → Prop}
theorem FlipA.nil (h : FlipA w0 wr ab n tm L l i A O) (hk : Keeps Nil wr w') : FlipA w0 w' ab n tm L l i A O := ⟨h.1.nil hk, h.2⟩
/-- the array, the bits, what is wanted -/
structure FlipS (w0 wr : World) (ab n tm : Nat) (L l : List Int) (la : Option Addr) (lc wb wc : Nat) (W : List Int) (i : Nat) (A : Nd) (O : Nat → Prop) : Prop where
  a : FlipA w0 wr ab n tm L l i A O
  l : NumRow .i64 wr 3 la lc L
  lO : ∀ g, blk la = some g → ¬ O g
  w : NumRow .u8 wr 5 (some ⟨wb, 0, none⟩) wc W
  wO : ¬ O wb
  wN : w0.heap.size ≤ wb
variable {la : Option Addr} {lc wb wc : Nat}
theorem FlipS.nil (h : FlipS w0 wr ab n tm L l la lc wb wc W i A O) (hk : Keeps Nil wr w') : FlipS w0 w' ab n tm L l la lc wb wc W i A O :=
  ⟨h.a.nil hk, h.l.keeps hk (fun _ _ h => h), h.lO, h.w.keeps hk (fun _ _ h => h), h.wO, h.wN⟩
theorem FlipS.set (h : FlipS w0 wr ab n tm L l la lc wb wc W i A O) (q : Nat) (v : Int) : FlipS w0 (wr.setCell ⟨wb, q, none⟩ (.int .u8 v)) ab n tm L l la lc wb wc (W.set q v) i A O := by
  have hk : Keeps (· = wb) wr (wr.setCell ⟨wb, q, none⟩ (.int .u8 v)) := (Keeps.refl (· = wb) wr).setCell (.inl rfl) _
  obtain ⟨c, hc⟩ : ∃ c, wr.heap[wb]? = some (.cells c 5 (0, 0)) := RowAt.heap h.w rfl
  exact ⟨⟨h.a.1.far hk (fun j hj e => h.wO (by rw [← e]; exact hj)) (fun j hj => by rw [hj]; exact h.wN), h.a.2⟩, h.l.keeps hk (fun g hg => h.l.ne' hg hc (by decide)), h.lO, h.w.set q v, h.wO, h.wN⟩
/-- a read leaves all of it -/
theorem FlipS.res {A' : Nd} {O' : Nat → Prop} {i' : Nat} (h : FlipS w0 wr ab n tm L l la lc wb wc W i A O) (h1 : FlipA w0 w' ab n tm L l i' A' O') (h2 : Keeps O wr w') (h3 : ∀ k, O' k → O k ∨ wr.heap.size ≤ k) : FlipS w0 w' ab n tm L l la lc wb wc W i' A' O' := by
  refine ⟨h1, h.l.keeps h2 h.lO, fun g hg hO => ?_, h.w.keeps h2 (fun g hg => by cases hg; exact h.wO), fun hO => ?_, h.wN⟩
  · rcases h3 g hO with q | q
    · exact h.lO g hg q
    · have := RowAt.lt h.l hg; omega
  · rcases h3 wb hO with q | q
    · exact h.wO q
    · have := RowAt.lt h.w (g := wb) rfl; omega
set_option maxHeartbeats 4000000 in
set_option maxRecDepth 100000 in
/-- too many bytes, or none, or too many bits -/
theorem flips_out (xa ba : Option Addr) (n xc mb bc : Nat) (x2 x3 : Int) (w : World) (h : n = 0 ∨ 100 < n ∨ 20 < mb) :
    Calls Try.prog 3 #[.slice xa n xc, .slice ba mb bc, .int .i64 x2, .int .i64 x3] w fun e w' => e = .returned (.bool true) ∧ Keeps Nil w w' := by
  have hc : (n = 0) ∨ (¬ n = 0 ∧ 100 < n) ∨ (¬ n = 0 ∧ ¬ 100 < n ∧ 20 < mb) := by omega
  clear h
  rcases hc with h | ⟨h, h2⟩ | ⟨h, h2, h3⟩
  · subst h
    go_enter Try.func3, Try.ntmps3
    go_wp2_with fail
    refine (awake10 w).mono ?_
    rintro e w1 ⟨rfl, k1⟩
    have k1' := Lib.hid k1
    clear k1
    go_wp2_with fail
    go_ret
    exact ⟨rfl, k1'.out⟩
  · have e1 : ((n : Int) == 0) = false := by simpa using h
    have e2 : (100 : Int) < (n : Int) := by omega
    have e3 : decide ((100 : Int) < (n : Int)) = true := by simpa using e2
    go_enter Try.func3, Try.ntmps3
    go_wp2_with fail
    refine (awake10 w).mono ?_
    rintro e w1 ⟨rfl, k1⟩
    have k1' := Lib.hid k1
    clear k1
    go_wp2_with fail
    go_ret
    exact ⟨rfl, k1'.out⟩
  · have e1 : ((n : Int) == 0) = false := by simpa using h
    have e2 : decide ((100 : Int) < (n : Int)) = false := by rw [decide_eq_false_iff_not]; omega
    have e3 : (20 : Int) < (mb : Int) := by omega
    have e4 : decide ((20 : Int) < (mb : Int)) = true := by simpa using e3
    go_enter Try.func3, Try.ntmps3
    go_wp2_with fail
    refine (awake10 w).mono ?_
    rintro e w1 ⟨rfl, k1⟩
    have k1' := Lib.hid k1
    clear k1
    go_wp2_with fail
    go_ret
    exact ⟨rfl, k1'.out⟩
set_option maxHeartbeats 16000000 in
set_option maxRecDepth 100000 in
theorem flips3 (xa ba : Option Addr) (n xc mb bc : Nat) (l X : List Int) (x2 x3 : Int) (w : World) (hn : 1 ≤ n ∧ n ≤ 100) (hmb : mb ≤ 20) (h2 : -9223372036854775808 ≤ x2 ∧ x2 ≤ 9223372036854775807) (h3 : -9223372036854775808 ≤ x3 ∧ x3 ≤ 9223372036854775807)
    (hx : NumsAt .u8 w xa l) (hl : l.length = n) (hxc : n ≤ xc) (hb : NumsAt .i64 w ba X) (hX : X.length = mb) (hXr : ∀ j, j < mb → -9223372036854775808 ≤ gi X j ∧ gi X j ≤ 9223372036854775807) :
    Calls Try.prog 3 #[.slice xa n xc, .slice ba mb bc, .int .i64 x2, .int .i64 x3] w fun e w' => e = .returned (.bool true) ∧ Keeps Nil w w' := by
  obtain ⟨i3, hi3, hz30, hz31, hz32⟩ := info_parts Try.info3n
  obtain ⟨i5, hi5, hz50, hz51, hz52⟩ := info_parts Try.info5n
  have hA2 := Lib.hid (fun w => abs11 x2 w h2.1 h2.2)
  have hA3 := Lib.hid (fun w => abs11 x3 w h3.1 h3.2)
  obtain ⟨tm, ht5, e2, e2'⟩ := mod_nat 5 (by decide) (absI_nonneg x2)
  obtain ⟨mo, hm4, e3, e3'⟩ := mod_nat 4 (by decide) (absI_nonneg x3)
  rw [show ((5 : Nat) : Int) = 5 from rfl] at e2 e2'
  rw [show ((4 : Nat) : Int) = 4 from rfl] at e3 e3'
  have hlt' := Lib.hid (hx.lt (by omega))
  have hx' := Lib.hid hx
  have hl' := Lib.hid hl
  have hb' := Lib.hid hb
  have hX' := Lib.hid hX
  have hXr' := Lib.hid hXr
  have hxc' := Lib.hid hxc
  have n0 : ((n : Int) == 0) = false := by simp only [beq_eq_false_iff_ne, ne_eq]; omega
  have n1 : decide ((100 : Int) < (n : Int)) = false := by rw [decide_eq_false_iff_not]; omega
  have n2 : decide ((20 : Int) < (mb : Int)) = false := by rw [decide_eq_false_iff_not]; omega
  have hns := run_neq_str
  have hfd := run_field40
  clear hx hl hb hX hXr h2 h3 hxc
  go_enter Try.func3, Try.ntmps3
  go_wp2_with fail
  refine (awake10 w).mono ?_
  rintro e w1 ⟨rfl, k1⟩
  have k1' := Lib.hid k1
  clear k1
  go_wp2_with fail
  go_loopw [10, 11] (fun o i wr => ∃ k : Nat, ∃ la : Option Addr, ∃ lc : Nat, k ≤ mb ∧ i = .int .i64 k ∧ o = .slice la k lc ∧ Hid (NumRow .i64 wr 3 la lc (flL X n k) ∧ Keeps Nil w wr ∧ ∀ g, blk la = some g → w.heap.size ≤ g)) (fun _ i _ => mb - (intOf i).toNat)
  case atStart => exact ⟨0, none, 0, Nat.zero_le _, rfl, rfl, Lib.hid ⟨RowAt.nil _ _ _, k1'.out, fun g h => by cases h⟩⟩
  case round =>
    clear k1'
    obtain ⟨k, la, lc, hk, rfl, rfl, hrel⟩ := hrel
    by_cases hlt : k < mb
    · obtain ⟨g, off, rfl, hc⟩ := hb'.out k (by rw [hX'.out]; exact hlt)
      have c0 := hrel.out.2.1.cell hc (fun h => h)
      obtain ⟨x, hxx⟩ : ∃ x, gi X k = x := ⟨_, rfl⟩
      have hbx := hXr'.out k hlt
      rw [hxx] at c0 hbx
      have hAx := Lib.hid (abs11 x wr hbx.1 hbx.2)
      obtain ⟨q, hq8, e0, e0'⟩ := mod_nat (8 * n) (by omega) (absI_nonneg x)
      rw [show ((8 * n : Nat) : Int) = 8 * (n : Int) from by omega] at e0 e0'
      have h8n : ¬ (8 * (n : Int) = 0) := by omega
      have hrow := Lib.hid (show RowAt wr 3 1 la k lc ((flL X n k).map (Value.int .i64)) by have := hrel.out.1; unfold NumRow at this; rw [flL_len] at this; exact this)
      have hfl := Lib.hid (show flL X n (k + 1) = flL X n k ++ [(q : Int)] by rw [flL_succ, hxx, e0'])
      have m1 := Lib.hid (show k + 1 ≤ maxLen by simp only [maxLen]; omega)
      have m2 := Lib.hid (show (k + 1) * 8 ≤ 140737488355328 by omega)
      have hk20 : k < 20 := by omega
      clear hc hbx hxx
      go_wp2_with fail
      refine (hAx.out).mono ?_
      rintro e w3 ⟨rfl, hw3⟩
      rw [← hw3]
      clear hw3 w3 hAx
      go_wp2_with (at_builtin; refine wpList_app _ rfl _ _ 23 rfl 3 i3 (.int .i64 0) 1 8 Try.underlying23 hi3 hz30 hz31 hz32 rfl (by decide) la k lc ((flL X n k).map (Value.int .i64)) rfl _ 1 1 [Value.int .i64 (q : Int)] rfl ?_ (by exact hrow.out.keeps ((Keeps.refl Nil wr).alloc _) (fun _ _ h => h)) (by exact (src_built wr (l := [Value.int .i64 (q : Int)]) (n := 1) (E := 3) rfl)) (fun h => by cases h) (by intro u hu; rw [List.mem_singleton] at hu; subst hu; rfl) (by exact m1.out) (by exact m2.out); intro a5 cap5 w5 hr5 hk5 hb5; have hD := Lib.hid (show NumRow .i64 w5 3 a5 cap5 (flL X n (k + 1)) ∧ Keeps Nil w w5 ∧ ∀ g, blk a5 = some g → w.heap.size ≤ g from ⟨by rw [hfl.out]; exact numRow_push (flL_len _ _ _) hr5, (hrel.out.2.1.alloc _).trans' hk5 (fun j hj => .inr (hrel.out.2.2 j hj)), fun g hg => by rcases hb5 with h | ⟨h, _⟩; exact hrel.out.2.2 g (h ▸ hg); rw [h] at hg; cases hg; exact (hrel.out.2.1.alloc _).size⟩); clear hr5 hk5 hb5)
      go_roundw
      case rel => exact ⟨k + 1, a5, cap5, by omega, by go_num, rfl, hD⟩
      case measure => simp [intOf]; omega
    · have hkn : k = mb := by omega
      subst hkn
      obtain ⟨L, hL⟩ : ∃ L, flL X n k = L := ⟨_, rfl⟩
      have hLl : L.length = k := by rw [← hL]; exact flL_len _ _ _
      have hLin : ∀ y ∈ L, 0 ≤ y ∧ y < 8 * (n : Int) := by rw [← hL]; exact flL_in hn.1
      obtain ⟨hLr, hkw, hLn⟩ := hrel.out
      rw [hL] at hLr
      have hNw := Lib.hid (FlipA.new (n := n) (tm := tm) (fr := (0, 0)) hkw hn (by omega) hLr (by omega) hLin hLl)
      have hLr' := Lib.hid hLr
      have hLl' := Lib.hid hLl
      have hLin' := Lib.hid hLin
      clear hLr hkw hLn hLl hLin hL hrel hX' hXr' hb' hlt hk
      go_wp2_with fail
      refine (hA2.out wr).mono ?_
      rintro e w3 ⟨rfl, hw3⟩
      rw [← hw3]
      clear hw3 w3 hA2
      go_wp2_with fail
      refine (hNw.out).mono ?_
      rintro e w2 ⟨ab, O, rfl, hO, kO, hOn⟩
      have hP := FlipA.prog hO (hx'.out.keeps hO.keep (fun _ _ h => h)) hlt'.out hl'.out (by rw [hl'.out]; exact hxc'.out)
      rw [hl'.out] at hP
      have hP' := Lib.hid hP
      have hLO := Lib.hid (show NumRow .i64 w2 3 la lc L ∧ ∀ g, blk la = some g → ¬ O g from ⟨hLr'.out.keeps kO (fun _ _ h => h), fun g hg h => by have := hOn g h; have := RowAt.lt hLr'.out hg; omega⟩)
      clear hP hO kO hOn hNw hLr' e2 e2'
      go_wp2_with fail
      refine (hP'.out).mono ?_
      rintro e w4 ⟨rfl, A4, O4, hA4, k4, hO4⟩
      have hxs := Lib.hid ((hx'.out.keeps hA4.1.keep (fun _ _ h => h)).src (fun h => by obtain ⟨_, _, e, _⟩ := hx'.out 0 (by rw [hl'.out]; exact hn.1); rw [e] at h; cases h))
      rw [hl'.out] at hxs
      have hL4 := Lib.hid (show NumRow .i64 w4 3 la lc L ∧ ∀ g, blk la = some g → ¬ O4 g from ⟨hLO.out.1.keeps k4 hLO.out.2, fun g hg h => by rcases hO4 g h with q | q; exact hLO.out.2 g hg q; have := RowAt.lt hLO.out.1 hg; omega⟩)
      have hA4' := Lib.hid hA4
      have m1 := Lib.hid (show 0 + n ≤ maxLen by simp only [maxLen]; omega)
      have m2 := Lib.hid (show (0 + n) * 1 ≤ 140737488355328 by omega)
      have hxn := Lib.hid (show xa ≠ none from fun h => by obtain ⟨_, _, e, _⟩ := hx'.out 0 (by rw [hl'.out]; exact hn.1); rw [e] at h; cases h)
      clear hA4 k4 hO4 hP' hLO
      go_wp2_with (at_builtin; refine wpList_app _ rfl _ _ 22 rfl 5 i5 (.int .u8 0) 1 1 Try.underlying22 hi5 hz50 hz51 hz52 rfl (by decide) none 0 0 [] rfl xa n xc (l.map (Value.int .u8)) rfl ?_ (RowAt.nil _ _ _) (by exact hxs.out) (fun h => absurd h hxn.out) (by intro u hu; obtain ⟨z, _, rfl⟩ := List.mem_map.1 hu; rfl) (by exact m1.out) (by exact m2.out); intro wa wc w5 hr5 hk5 hb5; have hk5n : Keeps Nil w4 w5 := hk5.mono (fun j h => by cases h))
      obtain ⟨wb, hwa, hwb⟩ : ∃ wb, wa = some ⟨wb, 0, none⟩ ∧ w4.heap.size ≤ wb := by
        rcases RowAt.form hr5 with ⟨_, h, _⟩ | ⟨g, _, h, _⟩
        · omega
        · refine ⟨g, h, ?_⟩
          rcases hb5 with q | ⟨q, _⟩
          · rw [h] at q; cases q
          · rw [h] at q; cases q; exact Nat.le_refl _
      subst hwa
      have hS5 : FlipS w w5 ab n tm L l la lc wb wc l 0 A4 O4 := by
        refine ⟨hA4'.out.nil hk5n, hL4.out.1.keeps hk5n (fun _ _ h => h), hL4.out.2, ?_, fun h => ?_, Nat.le_trans hA4'.out.1.keep.size hwb⟩
        · unfold NumRow
          rw [hl'.out]
          rw [Nat.zero_add] at hr5
          exact hr5
        · have := hA4'.out.1.lt h; omega
      have hS5' := Lib.hid hS5
      clear hS5 hr5 hk5 hb5 hk5n hwb hA4' hL4 hxs hxn m1 m2
      go_loopw [15] (fun i wr => ∃ j : Nat, j ≤ k ∧ i = .int .i64 j ∧ Hid (FlipS w wr ab n tm L l la lc wb wc ((L.take j).foldl turnB l) 0 A4 O4)) (fun i _ => k - (intOf i).toNat)
      case atStart => exact ⟨0, Nat.zero_le _, rfl, hS5'⟩
      case round =>
        clear hS5'
        obtain ⟨j, hj, rfl, hrel⟩ := hrel
        by_cases hjk : j < k
        · obtain ⟨W, hW⟩ : ∃ W, (L.take j).foldl turnB l = W := ⟨_, rfl⟩
          rw [hW] at hrel
          have hWl : W.length = n := by rw [← hW, turnB_fold_len]; exact hl'.out
          obtain ⟨gl, hgl, _, cl, _⟩ := hrel.out.l.cell (q := j) (by rw [hLl'.out]; exact hjk)
          subst hgl
          have hin := hLin'.out (gi L j) (by rw [gi_eq (by rw [hLl'.out]; exact hjk)]; exact List.getElem_mem _)
          obtain ⟨kk, hkk⟩ : ∃ kk, gi L j = kk := ⟨_, rfl⟩
          rw [hkk] at cl hin
          obtain ⟨kb0, kb1⟩ := hin
          obtain ⟨p, hp⟩ : ∃ p : Nat, kk / 8 = (p : Int) := ⟨(kk / 8).toNat, by omega⟩
          obtain ⟨r, hr⟩ : ∃ r : Nat, kk % 8 = (r : Int) := ⟨(kk % 8).toNat, by omega⟩
          have hpn : p < n := by omega
          have hr8 : r < 8 := by omega
          obtain ⟨g', hg', _, cw, fw⟩ := hrel.out.w.cell (q := p) (by rw [hWl]; exact hpn)
          cases hg'
          have hd8 : kk.tdiv 8 = (p : Int) := by rw [Int.tdiv_eq_ediv_of_nonneg kb0]; exact hp
          have hm8 : kk.tmod 8 = (r : Int) := by rw [Int.tmod_eq_emod_of_nonneg kb0]; exact hr
          have hwj : IntKind.i64.wrap (p : Int) = (p : Int) := by rw [IntKind.wrap_i64]; omega
          have hwr : IntKind.i64.wrap (r : Int) = (r : Int) := by rw [IntKind.wrap_i64]; omega
          have hst := Lib.hid (show (L.take (j + 1)).foldl turnB l = W.set p (bits .xor .u8 (gi W p) (128 / 2 ^ r)) from by
            have hg : L[j]? = some kk := by rw [← hkk, gi_eq (by rw [hLl'.out]; exact hjk)]; exact List.getElem?_eq_getElem _
            rw [List.take_add_one, hg, List.foldl_append, hW]
            show turnB W kk = _
            unfold turnB
            rw [hp, hr, Int.toNat_natCast, Int.toNat_natCast])
          have hD := Lib.hid (fun v => (hrel.out.nil (Keeps.refl Nil wr).drew).set p v)
          have hk20 : j < 20 := by omega
          clear hkk hp hr hW
          go_wp2_with fail
          go_still_tail 23, (by kernel_rfl)
          change wpList _ _ _ _ _ wr.drew
          go_wp2_with fail
          rw [show min r 8 = r from Nat.min_eq_left (by omega)]
          go_roundw
          case rel => exact ⟨j + 1, by omega, by go_num, Lib.hid (by rw [hst.out]; exact hD.out _)⟩
          case measure => simp [intOf]; omega
        · have hjk2 : j = k := by omega
          have hrel2 := hrel.out
          rw [hjk2, List.take_of_length_le (by rw [hLl'.out]; exact Nat.le_refl _)] at hrel2
          have hS0 := Lib.hid (show ∃ A O, FlipS w wr ab n tm L l la lc wb wc (L.foldl turnB l) 0 A O from ⟨A4, O4, hrel2⟩)
          clear hrel hrel2 hjk2
          go_wp2_with fail
          go_loopw [16] (fun i wr => ∃ j : Nat, j ≤ tm + 1 + mo ∧ i = .int .i64 j ∧ Hid (∃ A O, FlipS w wr ab n tm L l la lc wb wc (L.foldl turnB l) j A O)) (fun i _ => tm + 1 + mo - (intOf i).toNat)
          case atStart => exact ⟨0, Nat.zero_le _, rfl, hS0⟩
          case round =>
            clear hS0 hjk
            obtain ⟨j, hj, rfl, hrel⟩ := hrel
            obtain ⟨A, O, hS⟩ := hrel.out
            by_cases hlt : j < tm + 1 + mo
            · have hlz : (j : Int) < (tm : Int) + 1 + (mo : Int) := by omega
              have hRd := Lib.hid (hS.a.read (by omega) (by omega) (by rw [hLl'.out]; exact hmb) hl'.out)
              have hS' := Lib.hid hS
              have hj9 : j < 9 := by omega
              clear hS hrel
              go_wp2_with fail
              refine (hA3.out wr).mono ?_
              rintro e w3 ⟨rfl, hw3⟩
              rw [← hw3]
              clear hw3 w3
              go_wp2_with fail
              refine (hRd.out).mono ?_
              rintro e w6 ⟨g6, c6, rfl, hr6, A6, O6, hA6, k6, hO6⟩
              have hS6 := hS'.out.res hA6 k6 hO6
              have hwl : (L.foldl turnB l).length = n := by rw [turnB_fold_len]; exact hl'.out
              have hx2 := run_str (cap := wc) hS6.w.nums
              rw [hwl] at hx2
              have hx3 := run_str (cap := xc) (hx'.out.keeps hS6.a.1.keep (fun _ _ h => h))
              rw [hl'.out] at hx3
              have hS6' := Lib.hid (show ∃ A O, FlipS w w6 ab n tm L l la lc wb wc (L.foldl turnB l) (j + 1) A O from ⟨A6, O6, hS6⟩)
              by_cases hjt : j < tm
              · rw [if_pos hjt] at hr6
                have hx1 := run_str (cap := c6) hr6.nums
                rw [hwl] at hx1
                have t1 : decide (j < tm) = true := by simpa using hjt
                have t2 : decide (tm ≤ j) = false := by rw [decide_eq_false_iff_not]; omega
                have t3 : (j : Int) < (tm : Int) := by omega
                have t4 : ¬ tm ≤ j := by omega
                clear hS6 hr6 hA6 k6 hO6 hRd hS' hwl
                go_wp2_with fail
                go_roundw
                case rel => exact ⟨j + 1, by omega, by go_num, hS6'⟩
                case measure => simp [intOf]; omega
              · rw [if_neg hjt] at hr6
                have hx1 := run_str (cap := c6) hr6.nums
                rw [hl'.out] at hx1
                have t1 : decide (j < tm) = false := by simpa using hjt
                have t2 : decide (tm ≤ j) = true := by simpa using hjt
                have t3 : (tm : Int) ≤ (j : Int) := by omega
                have t4 : tm ≤ j := by omega
                clear hS6 hr6 hA6 k6 hO6 hRd hS' hwl
                go_wp2_with fail
                go_roundw
                case rel => exact ⟨j + 1, by omega, by go_num, hS6'⟩
                case measure => simp [intOf]; omega
            · have hlz : ¬ ((j : Int) < (tm : Int) + 1 + (mo : Int)) := by omega
              have hEv := eventsI_any hS.a.1
              have hfl := hS.a.2.2.2.2.2
              rw [show min j tm = tm by omega, hLl'.out] at hfl
              obtain ⟨pr, hpr⟩ : ∃ pr, tm * k = pr := ⟨_, rfl⟩
              have hpr2 : (tm : Int) * (k : Int) = (pr : Int) := by rw [← hpr]; exact (Int.natCast_mul tm k).symm
              have hpr80 : pr ≤ 80 := by
                have := Nat.mul_le_mul (show tm ≤ 4 by omega) hmb
                omega
              rw [hpr] at hfl
              unfold evCells at hEv
              rw [hfl] at hEv
              have hEv' := Lib.hid hEv
              have hkS := Lib.hid hS.a.1.keep
              clear hEv hfl hpr hS hrel
              go_wp2_with fail
              refine (hA3.out wr).mono ?_
              rintro e w3 ⟨rfl, hw3⟩
              rw [← hw3]
              clear hw3 w3
              go_wp2_with fail
              refine (hEv'.out).mono ?_
              rintro e w3 ⟨rfl, k3⟩
              have k3' := Lib.hid k3
              clear k3
              go_wp2_with fail
              go_ret
              exact ⟨rfl, hkS.out.trans k3'.out⟩
end Go.Proofs.Ytglpacdenfoicaa
