/- SpacePlays: the walk -/
import Derived.Test.YtmdgbcbnciaikaaPA
import Derived.Deep.CutBlock
import Derived.Deep.DeepCutAuto
namespace Go.Proofs.Ytmdgbcbnciaikaa
open Go.RowKit

attribute [local go_sem ↓] Go.wp_at_zero Go.wp_at_succ

theorem opCells {w : World} {b : Nat} {t : TypeId} {v0 v1 v2 v3 v4 v5 v6 v7 v8 : Value} (h : w.heap[b]? = some (.cells #[v0, v1, v2, v3, v4, v5, v6, v7, v8] t)) :
    w.cell? ⟨b, 0, none⟩ = some v0 ∧ w.cell? ⟨b, 1, none⟩ = some v1 ∧ w.cell? ⟨b, 2, none⟩ = some v2 ∧ w.cell? ⟨b, 3, none⟩ = some v3 ∧ w.cell? ⟨b, 4, none⟩ = some v4 ∧ w.cell? ⟨b, 5, none⟩ = some v5 ∧ w.cell? ⟨b, 6, none⟩ = some v6 ∧ w.cell? ⟨b, 7, none⟩ = some v7 ∧ w.cell? ⟨b, 8, none⟩ = some v8 :=
  ⟨cell_of_heap h 0, cell_of_heap h 1, cell_of_heap h 2, cell_of_heap h 3, cell_of_heap h 4, cell_of_heap h 5, cell_of_heap h 6, cell_of_heap h 7, cell_of_heap h 8⟩

set_option maxHeartbeats 16000000 in
set_option maxRecDepth 100000 in
theorem plays_any (z : Int) (ax : Option Addr) (n capx : Nat) (l : Nat → OpR) (w : World) (h0 : -9223372036854775808 ≤ z) (h1 : z ≤ 9223372036854775807) (hx : OpsAt w ax n l) (hok : ∀ j, j < n → OpOk (l j)) (hmx : n ≤ maxLen) :
    Calls Try.prog 5 #[.int .i64 z, .slice ax n capx] w fun e w' => e = .returned (.bool true) ∧ Keeps Nil w w' := by
  have hmx2 : n ≤ 9223372036854775807 := by unfold maxLen at hmx; omega
  have hx' := Lib.hid hx
  have hopk := Lib.hid hok
  have hAw := Lib.hid (awake_any w)
  clear hx hok hmx
  by_cases hbad : z < 1 ∨ 4096 < z
  · have hN := Lib.hid (fun W => new_bad hbad W)
    have hRN := Lib.hid (fun W => rnew_bad hbad W)
    clear hbad
    go_enter Try.func5, Try.ntmps5
    go_wp2_with fail
    refine (hAw.out).mono ?_
    rintro e w1 ⟨rfl, k1⟩
    have k1' := Lib.hid k1
    clear k1 hAw
    go_wp2_with fail
    refine (hN.out _).mono ?_
    rintro e w2 ⟨rfl, rfl⟩
    go_wp2_with fail
    refine (hRN.out _).mono ?_
    rintro e w2 ⟨rfl, rfl⟩
    go_wp2_with fail
    go_ret
    exact ⟨rfl, k1'.out⟩
  · have hz1 : 1 ≤ z := by omega
    have hkm : z ≤ 4096 := by omega
    obtain ⟨zn, hzn⟩ : ∃ zn : Nat, z = (zn : Int) := ⟨z.toNat, by omega⟩
    have hzn' := Lib.hid hzn
    have hRN := Lib.hid (show ∀ W, Calls Try.prog 15 #[.int .i64 z] W _ from fun W => by
      have h := rnew_any (n := zn) (by omega) (by omega) W
      rw [← hzn] at h
      exact h)
    clear hbad h0 h1 hzn
    go_enter Try.func5, Try.ntmps5
    go_wp2_with fail
    refine (hAw.out).mono ?_
    rintro e w1 ⟨rfl, k1⟩
    have hNew := Lib.hid (new_in k1 hz1 hkm)
    clear k1 hAw
    go_wp2_with fail
    refine (hNew.out).mono ?_
    rintro e w2 ⟨rfl, hI, hk⟩
    obtain ⟨tb, htb⟩ : ∃ tb, w1.heap.size = tb := ⟨_, rfl⟩
    rw [htb] at hI ⊢
    have hI0 := Lib.hid hI
    clear hI hk hNew htb
    go_wp2_with fail
    refine (hRN.out _).mono ?_
    rintro e w3 ⟨rb, ob, rfl, hR, hk, hg1, hg2⟩
    have hT0 := Lib.hid (show Two w w3 tb rb ob z (List.replicate 16 sp0) (List.replicate 16 sp0) from by
      have hlt := lt_of_heap hI0.out.at_
      have hs := hI0.out.keep.size
      exact ⟨hI0.out.same hk, ⟨_, hR, by rw [hzn'.out]; exact Rel.new⟩, by omega, by omega, by omega⟩)
    clear hR hk hg1 hg2 hRN hI0
    go_wp2_with fail
    go_loopw [10, 11, 12, 13, 14, 15, 16, 17, 18, 19, 20, 21, 22, 23, 24, 25, 26, 27, 28, 29] (fun i _ _ _ _ _ _ _ _ _ _ _ _ _ _ _ _ _ _ _ wx => ∃ (k : Nat) (T : List Spc), k ≤ n ∧ k ≤ 60 ∧ i = .int .i64 k ∧ Two w wx tb rb ob z T T) (fun i _ _ _ _ _ _ _ _ _ _ _ _ _ _ _ _ _ _ _ _ => n - (intOf i).toNat)
    case atStart => exact ⟨0, _, by omega, by omega, rfl, hT0.out⟩
    case round =>
      obtain ⟨i, T, hi, hi60, rfl, hP⟩ := hrel
      have hP' := Lib.hid hP
      by_cases hin : i < n ∧ i < 60
      · obtain ⟨hi1, hi2⟩ := hin
        obtain ⟨b, off, rfl, hop⟩ := (hx'.out.keeps hP.t.keep) i hi1
        obtain ⟨⟨hk0, hk1⟩, ⟨hd0, hd1⟩, ⟨hz0', hz1'⟩, ⟨hl0, hl1⟩, hrok⟩ := hopk.out i hi1
        obtain ⟨o, ho⟩ : ∃ o, l i = o := ⟨_, rfl⟩
        rw [ho] at hop hk0 hk1 hd0 hd1 hz0' hz1' hl0 hl1 hrok
        obtain ⟨kd, id, size, lba, ⟨rk, rs, ra, rbb, rc⟩⟩ := o
        have c0 := hop 0 (.int .i64 kd) rfl
        have c1 := hop 1 (.int .i64 id) rfl
        have c2 := hop 2 (.int .i64 size) rfl
        have c3 := hop 3 (.int .u64 lba) rfl
        have c4 := hop 4 (.int .i64 rk) rfl
        have c5 := hop 5 (.int .u64 rs) rfl
        have c6 := hop 6 (.int .u64 ra) rfl
        have c7 := hop 7 (.int .u64 rbb) rfl
        have c8 := hop 8 (.int .u64 rc) rfl
        simp only [Nat.add_zero] at c0
        simp only at hk0 hk1 hd0 hd1 hz0' hz1' hl0 hl1 hrok
        have hrok' := Lib.hid hrok
        have hok' := Lib.hid hP.t.ok
        obtain ⟨a, ha⟩ : ∃ a, absI kd = a := ⟨_, rfl⟩
        have ha0 : 0 ≤ a := by rw [← ha]; exact absI_nonneg _
        have hA := Lib.hid (fun W => abs_val kd a W hk0 hk1 ha)
        obtain ⟨m6, hm6⟩ : ∃ m6, a % 6 = m6 := ⟨_, rfl⟩
        have hkd := Lib.hid (show m6 = 0 ∨ m6 = 1 ∨ m6 = 2 ∨ m6 = 3 ∨ m6 = 4 ∨ m6 = 5 by omega)
        have g1 : (0 : Int) ≤ (i : Int) := by omega
        have g2 : (i : Int) < (n : Int) := by omega
        have g3 : (i : Int) < 60 := by omega
        clear hop ho ha hk0 hk1 hP hrok
        go_upto_block 2 with (go_at_call 8; refine (hA.out _).mono ?_; rintro e w3 ⟨rfl, rfl⟩)
        rw [hm6]
        clear hm6 ha0 g1 g2 g3
        go_cut [12, 13, 14, 15, 16, 17, 18, 19, 20, 21, 22, 23, 24, 25, 26, 27, 28] (fun v _ _ _ _ _ _ _ _ _ _ _ _ _ _ _ _ wx => v = .bool true ∧ ∃ T', Two w wx tb rb ob z T' T')
        case first =>
          have hkd' := hkd.out
          have hop' := Lib.hid (heap_alloc_new wr (.cells #[.int .i64 kd, .int .i64 id, .int .i64 size, .int .u64 lba, .int .i64 rk, .int .u64 rs, .int .u64 ra, .int .u64 rbb, .int .u64 rc] 50))
          have hP4 := Lib.hid (hP'.out.same ((Keeps.refl Nil wr).alloc (.cells #[.int .i64 kd, .int .i64 id, .int .i64 size, .int .u64 lba, .int .i64 rk, .int .u64 rs, .int .u64 ra, .int .u64 rbb, .int .u64 rc] 50)))
          have hnt := Lib.hid (show ¬ wr.heap.size = tb by have := hP'.out.ltt; omega)
          have hno := Lib.hid (show ¬ wr.heap.size = ob by have := hP'.out.ltt; omega)
          clear c0 c1 c2 c3 c4 c5 c6 c7 c8
          rcases hkd' with rfl | rfl | rfl | rfl | rfl | rfl
          · as_aux_lemma =>
            obtain ⟨q0, q1, q2, q3, q4, q5, q6, q7, q8⟩ := opCells hop'.out
            obtain ⟨sv, hsv⟩ : ∃ sv, crS z T size = sv := ⟨_, rfl⟩
            obtain ⟨fe, hfe⟩ : ∃ fe, crE z T size = fe := ⟨_, rfl⟩
            have hC := hP4.out.t.create (size := size) (by omega)
            have hRr := Lib.hid (show ∀ W, RIn W rb ob z T → Calls Try.prog 16 #[.pointer (some ⟨rb, 0, none⟩), .int .i64 size] W fun e w' => e = .returned (.tuple #[spV sv, .int .i64 fe]) ∧ RIn w' rb ob z (crT z T size) ∧ Keeps (· = ob) W w' from fun W hW => by
              have h := hW.create hok'.out hkm (size := size) (by omega)
              rw [hsv, hfe] at h
              exact h)
            rw [hsv, hfe] at hC
            have hC' := Lib.hid hC
            obtain ⟨u, v, y⟩ := sv
            simp only [spV] at hC' hRr
            have ebb : (fe == fe) = true := by simp
            clear hC hsv hfe
            go_wp2_with fail
            refine (hC'.out).mono ?_
            rintro e w5 ⟨rfl, hI5, hk5⟩
            have hP5 := Lib.hid ((hP4.out.tstep hI5 hk5).same ((Keeps.refl Nil w5).alloc (.cells #[.int .i64 u, .int .i64 v, .int .i64 y] 30)))
            have hop5 := Lib.hid (((Keeps.refl Nil w5).alloc (.cells #[.int .i64 u, .int .i64 v, .int .i64 y] 30)).heap (hk5.heap hop'.out (fun e => hnt.out e)) (fun h => h))
            have hb5 := Lib.hid (heap_alloc_new w5 (.cells #[.int .i64 u, .int .i64 v, .int .i64 y] 30))
            have hn5 := Lib.hid (show w5.heap.size ≠ ob by have h1 := hk5.size; have h2 := hP4.out.ltt; omega)
            have hRf := Lib.hid (hRr.out _ hP5.out.r)
            clear hI5 hk5 hC' q0 q1 q2 q3 q4 q5 q6 q7 q8
            obtain ⟨q0, q1, q2, q3, q4, q5, q6, q7, q8⟩ := opCells hop5.out
            go_wp2_with fail
            refine (hRf.out).mono ?_
            rintro e w6 ⟨rfl, hR6, hk6⟩
            have hP6 := Lib.hid ((hP5.out.rstep hR6 hk6).same ((Keeps.refl Nil w6).alloc (.cells #[.int .i64 u, .int .i64 v, .int .i64 y] 30)))
            have hb6 := ((Keeps.refl Nil w6).alloc (.cells #[.int .i64 u, .int .i64 v, .int .i64 y] 30)).heap (hk6.heap hb5.out (fun e => hn5.out e)) (fun h => h)
            have c0 := cell_of_heap hb6 0
            have c1 := cell_of_heap hb6 1
            have c2 := cell_of_heap hb6 2
            simp at c0 c1 c2
            clear hR6 hk6 hb6 hRf q0 q1 q2 q3 q4 q5 q6 q7 q8
            go_wp2_with fail
            go_meet
            exact ⟨rfl, _, hP6.out⟩
          · as_aux_lemma =>
            obtain ⟨q0, q1, q2, q3, q4, q5, q6, q7, q8⟩ := opCells hop'.out
            obtain ⟨sv, hsv⟩ : ∃ sv, crS z T size = sv := ⟨_, rfl⟩
            obtain ⟨fe, hfe⟩ : ∃ fe, crE z T size = fe := ⟨_, rfl⟩
            have hC := hP4.out.t.create (size := size) (by omega)
            have hRr := Lib.hid (show ∀ W, RIn W rb ob z T → Calls Try.prog 16 #[.pointer (some ⟨rb, 0, none⟩), .int .i64 size] W fun e w' => e = .returned (.tuple #[spV sv, .int .i64 fe]) ∧ RIn w' rb ob z (crT z T size) ∧ Keeps (· = ob) W w' from fun W hW => by
              have h := hW.create hok'.out hkm (size := size) (by omega)
              rw [hsv, hfe] at h
              exact h)
            rw [hsv, hfe] at hC
            have hC' := Lib.hid hC
            obtain ⟨u, v, y⟩ := sv
            simp only [spV] at hC' hRr
            have ebb : (fe == fe) = true := by simp
            clear hC hsv hfe
            go_wp2_with fail
            refine (hC'.out).mono ?_
            rintro e w5 ⟨rfl, hI5, hk5⟩
            have hP5 := Lib.hid ((hP4.out.tstep hI5 hk5).same ((Keeps.refl Nil w5).alloc (.cells #[.int .i64 u, .int .i64 v, .int .i64 y] 30)))
            have hop5 := Lib.hid (((Keeps.refl Nil w5).alloc (.cells #[.int .i64 u, .int .i64 v, .int .i64 y] 30)).heap (hk5.heap hop'.out (fun e => hnt.out e)) (fun h => h))
            have hb5 := Lib.hid (heap_alloc_new w5 (.cells #[.int .i64 u, .int .i64 v, .int .i64 y] 30))
            have hn5 := Lib.hid (show w5.heap.size ≠ ob by have h1 := hk5.size; have h2 := hP4.out.ltt; omega)
            have hRf := Lib.hid (hRr.out _ hP5.out.r)
            clear hI5 hk5 hC' q0 q1 q2 q3 q4 q5 q6 q7 q8
            obtain ⟨q0, q1, q2, q3, q4, q5, q6, q7, q8⟩ := opCells hop5.out
            go_wp2_with fail
            refine (hRf.out).mono ?_
            rintro e w6 ⟨rfl, hR6, hk6⟩
            have hP6 := Lib.hid ((hP5.out.rstep hR6 hk6).same ((Keeps.refl Nil w6).alloc (.cells #[.int .i64 u, .int .i64 v, .int .i64 y] 30)))
            have hb6 := ((Keeps.refl Nil w6).alloc (.cells #[.int .i64 u, .int .i64 v, .int .i64 y] 30)).heap (hk6.heap hb5.out (fun e => hn5.out e)) (fun h => h)
            have c0 := cell_of_heap hb6 0
            have c1 := cell_of_heap hb6 1
            have c2 := cell_of_heap hb6 2
            simp at c0 c1 c2
            clear hR6 hk6 hb6 hRf q0 q1 q2 q3 q4 q5 q6 q7 q8
            go_wp2_with fail
            go_meet
            exact ⟨rfl, _, hP6.out⟩
          · as_aux_lemma =>
            obtain ⟨q0, q1, q2, q3, q4, q5, q6, q7, q8⟩ := opCells hop'.out
            obtain ⟨sv, hsv⟩ : ∃ sv, tat T id = sv := ⟨_, rfl⟩
            obtain ⟨fe, hfe⟩ : ∃ fe, ferr sv = fe := ⟨_, rfl⟩
            have hC := hP4.out.t.delete id
            have hRr := Lib.hid (show ∀ W, RIn W rb ob z T → Calls Try.prog 17 #[.pointer (some ⟨rb, 0, none⟩), .int .i64 id] W fun e w' => e = .returned (.tuple #[spV sv, .int .i64 fe]) ∧ RIn w' rb ob z (tdel T id) ∧ Keeps (· = ob) W w' from fun W hW => by
              have h := hW.delete hok'.out hkm id
              rw [hsv, hfe] at h
              exact h)
            rw [hsv, hfe] at hC
            have hC' := Lib.hid hC
            obtain ⟨u, v, y⟩ := sv
            simp only [spV] at hC' hRr
            have ebb : (fe == fe) = true := by simp
            clear hC hsv hfe
            go_wp2_with fail
            refine (hC'.out).mono ?_
            rintro e w5 ⟨rfl, hI5, hk5⟩
            have hP5 := Lib.hid ((hP4.out.tstep hI5 hk5).same ((Keeps.refl Nil w5).alloc (.cells #[.int .i64 u, .int .i64 v, .int .i64 y] 30)))
            have hop5 := Lib.hid (((Keeps.refl Nil w5).alloc (.cells #[.int .i64 u, .int .i64 v, .int .i64 y] 30)).heap (hk5.heap hop'.out (fun e => hnt.out e)) (fun h => h))
            have hb5 := Lib.hid (heap_alloc_new w5 (.cells #[.int .i64 u, .int .i64 v, .int .i64 y] 30))
            have hn5 := Lib.hid (show w5.heap.size ≠ ob by have h1 := hk5.size; have h2 := hP4.out.ltt; omega)
            have hRf := Lib.hid (hRr.out _ hP5.out.r)
            clear hI5 hk5 hC' q0 q1 q2 q3 q4 q5 q6 q7 q8
            obtain ⟨q0, q1, q2, q3, q4, q5, q6, q7, q8⟩ := opCells hop5.out
            go_wp2_with fail
            refine (hRf.out).mono ?_
            rintro e w6 ⟨rfl, hR6, hk6⟩
            have hP6 := Lib.hid ((hP5.out.rstep hR6 hk6).same ((Keeps.refl Nil w6).alloc (.cells #[.int .i64 u, .int .i64 v, .int .i64 y] 30)))
            have hb6 := ((Keeps.refl Nil w6).alloc (.cells #[.int .i64 u, .int .i64 v, .int .i64 y] 30)).heap (hk6.heap hb5.out (fun e => hn5.out e)) (fun h => h)
            have c0 := cell_of_heap hb6 0
            have c1 := cell_of_heap hb6 1
            have c2 := cell_of_heap hb6 2
            simp at c0 c1 c2
            clear hR6 hk6 hb6 hRf q0 q1 q2 q3 q4 q5 q6 q7 q8
            go_wp2_with fail
            go_meet
            exact ⟨rfl, _, hP6.out⟩
          · as_aux_lemma =>
            obtain ⟨q0, q1, q2, q3, q4, q5, q6, q7, q8⟩ := opCells hop'.out
            obtain ⟨kv, hkv⟩ : ∃ kv, keyV (tat T id) lba size = kv := ⟨_, rfl⟩
            obtain ⟨fe, hfe⟩ : ∃ fe, keyE (tat T id) lba size = fe := ⟨_, rfl⟩
            have hC := hP4.out.t.key id lba size (by omega) (by omega) (by omega) (by omega)
            have hRr := Lib.hid (show ∀ W, RIn W rb ob z T → Calls Try.prog 18 #[.pointer (some ⟨rb, 0, none⟩), .int .i64 id, .int .u64 lba, .int .i64 size] W fun e w' => e = .returned (.tuple #[.int .i64 kv, .int .i64 fe]) ∧ Keeps Nil W w' from fun W hW => by
              have h := hW.key hok'.out hkm id lba size (by omega) (by omega) (by omega) (by omega)
              rw [hkv, hfe] at h
              exact h)
            rw [hkv, hfe] at hC
            have hC' := Lib.hid hC
            have ebb : (fe == fe) = true := by simp
            have ekk : (kv == kv) = true := by simp
            clear hC hkv hfe
            go_wp2_with fail
            refine (hC'.out).mono ?_
            rintro e w5 ⟨rfl, hk5⟩
            have hk5' := Lib.hid hk5
            have hP5 := Lib.hid (hP4.out.same hk5)
            have hop5 := Lib.hid (hk5.heap hop'.out (fun h => h))
            have hRf := Lib.hid (hRr.out _ hP5.out.r)
            clear hk5 hC' q0 q1 q2 q3 q4 q5 q6 q7 q8
            obtain ⟨q0, q1, q2, q3, q4, q5, q6, q7, q8⟩ := opCells hop5.out
            go_wp2_with fail
            refine (hRf.out).mono ?_
            rintro e w6 ⟨rfl, hk6⟩
            have hP6 := Lib.hid (hP5.out.same hk6)
            clear hk6 hRf q0 q1 q2 q3 q4 q5 q6 q7 q8
            go_wp2_with fail
            go_meet
            exact ⟨rfl, _, hP6.out⟩
          · as_aux_lemma =>
            obtain ⟨q0, q1, q2, q3, q4, q5, q6, q7, q8⟩ := opCells hop'.out
            obtain ⟨sv, hsv⟩ : ∃ sv, tat T id = sv := ⟨_, rfl⟩
            obtain ⟨fe, hfe⟩ : ∃ fe, ferr sv = fe := ⟨_, rfl⟩
            have hC := find_any hP4.out.t.at_ hP4.out.t.ok id
            have hRr := Lib.hid (show ∀ W, RIn W rb ob z T → Calls Try.prog 20 #[.pointer (some ⟨rb, 0, none⟩), .int .i64 id] W fun e w' => e = .returned (.tuple #[spV sv, .int .i64 fe]) ∧ Keeps Nil W w' from fun W hW => by
              have h := hW.find hok'.out hkm id
              rw [hsv, hfe] at h
              exact h)
            rw [hsv, hfe] at hC
            have hC' := Lib.hid hC
            obtain ⟨u, v, y⟩ := sv
            simp only [spV] at hC' hRr
            have ebb : (fe == fe) = true := by simp
            clear hC hsv hfe
            go_wp2_with fail
            refine (hC'.out).mono ?_
            rintro e w5 ⟨rfl, hk5⟩
            have hk5' := Lib.hid (hk5.alloc (.cells #[.int .i64 u, .int .i64 v, .int .i64 y] 30))
            have hP5 := Lib.hid (hP4.out.same hk5'.out)
            have hop5 := Lib.hid (hk5'.out.heap hop'.out (fun h => h))
            have hb5 := Lib.hid (heap_alloc_new w5 (.cells #[.int .i64 u, .int .i64 v, .int .i64 y] 30))
            have hRf := Lib.hid (hRr.out _ hP5.out.r)
            clear hk5 hC' q0 q1 q2 q3 q4 q5 q6 q7 q8
            obtain ⟨q0, q1, q2, q3, q4, q5, q6, q7, q8⟩ := opCells hop5.out
            go_wp2_with fail
            refine (hRf.out).mono ?_
            rintro e w6 ⟨rfl, hk6⟩
            have hk6' := Lib.hid (hk6.alloc (.cells #[.int .i64 u, .int .i64 v, .int .i64 y] 30))
            have hP6 := Lib.hid (hP5.out.same hk6'.out)
            have hb6 := hk6'.out.heap hb5.out (fun h => h)
            have c0 := cell_of_heap hb6 0
            have c1 := cell_of_heap hb6 1
            have c2 := cell_of_heap hb6 2
            simp at c0 c1 c2
            clear hk6 hb6 hRf q0 q1 q2 q3 q4 q5 q6 q7 q8
            go_wp2_with fail
            go_meet
            exact ⟨rfl, _, hP6.out⟩
          · as_aux_lemma =>
            obtain ⟨fe, hfe⟩ : ∃ fe, apE z T ⟨rk, rs, ra, rbb, rc⟩ = fe := ⟨_, rfl⟩
            have hCa := Lib.hid (show ∀ W, SpIn w W tb z T → Calls Try.prog 21 #[.pointer (some ⟨tb, 0, none⟩), .agg #[.int .i64 rk, .int .u64 rs, .int .u64 ra, .int .u64 rbb, .int .u64 rc]] W fun e w' => e = .returned (.int .i64 fe) ∧ SpIn w w' tb z (apT z T ⟨rk, rs, ra, rbb, rc⟩) ∧ Keeps (· = tb) W w' from fun W hW => by
              have h := hW.apply hrok'.out
              rw [hfe] at h
              exact h)
            have hRr := Lib.hid (show ∀ W, RIn W rb ob z T → Calls Try.prog 22 #[.pointer (some ⟨rb, 0, none⟩), .agg #[.int .i64 rk, .int .u64 rs, .int .u64 ra, .int .u64 rbb, .int .u64 rc]] W fun e w' => e = .returned (.int .i64 fe) ∧ RIn w' rb ob z (apT z T ⟨rk, rs, ra, rbb, rc⟩) ∧ Keeps (· = ob) W w' from fun W hW => by
              have h := hW.apply hok'.out hkm hrok'.out
              rw [hfe] at h
              exact h)
            have ebb : (fe == fe) = true := by simp
            clear hfe
            obtain ⟨W0, hW0⟩ : ∃ W0, (wr.alloc (.cells #[.int .i64 kd, .int .i64 id, .int .i64 size, .int .u64 lba, .int .i64 rk, .int .u64 rs, .int .u64 ra, .int .u64 rbb, .int .u64 rc] 50)) = W0 := ⟨_, rfl⟩
            rw [hW0] at hP4 hop' ⊢
            clear hW0
            have hLC := Lib.hid (show ∀ S W, Keeps S W0 W → ¬ S wr.heap.size → W.cell? ⟨wr.heap.size, 4, none⟩ = some (.int .i64 rk) ∧ W.cell? ⟨wr.heap.size, 5, none⟩ = some (.int .u64 rs) ∧ W.cell? ⟨wr.heap.size, 6, none⟩ = some (.int .u64 ra) ∧ W.cell? ⟨wr.heap.size, 7, none⟩ = some (.int .u64 rbb) ∧ W.cell? ⟨wr.heap.size, 8, none⟩ = some (.int .u64 rc) from fun S W hW hn => by
              have h := hW.heap hop'.out hn
              obtain ⟨_, _, _, _, h4, h5, h6, h7, h8⟩ := opCells h
              exact ⟨h4, h5, h6, h7, h8⟩)
            obtain ⟨a4, a5, a6, a7, a8⟩ := hLC.out Nil _ (Keeps.refl _ _) (fun h => h)
            go_wp2_with fail
            go_region_held3 (fun W => W.cell? ⟨wr.heap.size, 4, none⟩ = some (.int .i64 rk) ∧ W.cell? ⟨wr.heap.size, 5, none⟩ = some (.int .u64 rs) ∧ W.cell? ⟨wr.heap.size, 6, none⟩ = some (.int .u64 ra) ∧ W.cell? ⟨wr.heap.size, 7, none⟩ = some (.int .u64 rbb) ∧ W.cell? ⟨wr.heap.size, 8, none⟩ = some (.int .u64 rc)) (first | exact hLC.out Nil _ (Keeps.refl _ _).drew (fun h => h) | exact hLC.out _ _ hk6'.out (fun h => h.elim hnt.out hno.out) | exact hLC.out _ _ hk5'.out hnt.out) (first
              | (go_at_call 21; refine (hCa.out _ (hP4.out.same (Keeps.refl Nil W0).drew).t).mono ?_; rintro e w5 ⟨rfl, hI5, hk5⟩; have hk5' := Lib.hid ((Keeps.refl (· = tb) W0).drew.trans hk5); have hP5 := Lib.hid ((hP4.out.same (Keeps.refl Nil W0).drew).tstep hI5 hk5); clear hI5 hk5)
              | (go_at_call 22; refine (hRr.out _ hP5.out.r).mono ?_; rintro e w6 ⟨rfl, hR6, hk6⟩; have hk6' := Lib.hid (show Keeps (fun j => j = tb ∨ j = ob) W0 w6 from (hk5'.out.mono (fun _ h => .inl h)).trans (hk6.mono (fun _ h => .inr h))); have hP6 := Lib.hid (hP5.out.rstep hR6 hk6); clear hR6 hk6))
            go_wp2_with fail
            go_meet
            exact ⟨rfl, _, hP6.out⟩
        case rest => as_aux_lemma =>
          obtain ⟨rfl, T2, hP2⟩ := hcut
          have hPc := Lib.hid hP2
          obtain ⟨L, hL⟩ : ∃ L, spAll T2 = L := ⟨_, rfl⟩
          have hLl := Lib.hid (show L.length ≤ 1000000 by have := spAll_len T2; have := hP2.t.ok.len; rw [← hL]; omega)
          have hAll := hP2.t.all
          rw [hL] at hAll
          have hAll' := Lib.hid hAll
          have hRA := Lib.hid (show ∀ W, RIn W rb ob z T2 → Calls Try.prog 24 #[.pointer (some ⟨rb, 0, none⟩)] W fun e w' => ∃ a cap, e = .returned (.slice a L.length cap) ∧ SpRow w' a cap L ∧ Keeps Nil W w' from fun W hW => by
            have h := hW.all hP2.t.ok hkm
            rw [hL] at h
            exact h)
          obtain ⟨fr, hfr⟩ : ∃ fr, z - spSum T2 = fr := ⟨_, rfl⟩
          have hF1 := Lib.hid (show ∀ W, SpIn w W tb z T2 → Calls Try.prog 14 #[.pointer (some ⟨tb, 0, none⟩)] W fun e w' => e = .returned (.int .i64 fr) ∧ Keeps Nil W w' from fun W hW => by
            have h := hW.free
            rw [hfr] at h
            exact h)
          have hF2 := Lib.hid (show ∀ W, RIn W rb ob z T2 → Calls Try.prog 25 #[.pointer (some ⟨rb, 0, none⟩)] W fun e w' => e = .returned (.int .i64 fr) ∧ Keeps Nil W w' from fun W hW => by
            have h := hW.free hkm
            rw [hfr] at h
            exact h)
          have ebb : (fr != fr) = false := by simp
          clear hP2 hL hAll hfr
          go_wp2_with fail
          refine (hAll'.out).mono ?_
          rintro e w5 ⟨g, cap, rfl, hr5, hk5, _⟩
          have hP5 := Lib.hid (hPc.out.same hk5)
          have hr5' := Lib.hid hr5
          have hRA5 := Lib.hid (hRA.out _ hP5.out.r)
          clear hr5 hk5 hAll'
          go_wp2_with fail
          refine (hRA5.out).mono ?_
          rintro e w6 ⟨a6, cap6, rfl, hr6, hk6⟩
          have hP6 := Lib.hid (hP5.out.same hk6)
          have hRw := Lib.hid (rows23 (RecRow.keeps hr5'.out hk6 (fun _ _ h => h)) hr6 hLl.out)
          clear hr6 hk6 hRA5
          go_wp2_with fail
          refine (hRw.out).mono ?_
          rintro e w7 ⟨rfl, hk7⟩
          have hP7 := Lib.hid (hP6.out.same hk7)
          have hF1' := Lib.hid (hF1.out _ hP7.out.t)
          clear hk7 hRw
          go_wp2_with fail
          refine (hF1'.out).mono ?_
          rintro e w8 ⟨rfl, hk8⟩
          have hP8 := Lib.hid (hP7.out.same hk8)
          have hF2' := Lib.hid (hF2.out _ hP8.out.r)
          clear hk8 hF1'
          go_wp2_with fail
          refine (hF2'.out).mono ?_
          rintro e w9 ⟨rfl, hk9⟩
          have hP9 := Lib.hid (hP8.out.same hk9)
          clear hk9 hF2'
          go_wp2_with fail
          go_roundw
          case rel => exact ⟨i + 1, T2, by omega, by omega, by go_num, hP9.out⟩
          case measure => simp [intOf]; omega
      · as_aux_lemma =>
        have hex : ((i : Int) < (n : Int) ∧ ¬ (i : Int) < 60) ∨ ¬ (i : Int) < (n : Int) := by omega
        clear hin hP
        rcases hex with ⟨hg, hg2⟩ | hg <;> (
          go_wp2_with fail
          go_ret
          exact ⟨rfl, hP'.out.t.keep⟩)
end Go.Proofs.Ytmdgbcbnciaikaa
