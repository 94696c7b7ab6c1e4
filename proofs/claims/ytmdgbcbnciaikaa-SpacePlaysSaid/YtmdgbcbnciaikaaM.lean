/- SpaceFirst: the walk -/
import Derived.Test.YtmdgbcbnciaikaaL
namespace Go.Proofs.Ytmdgbcbnciaikaa
open Go.RowKit

attribute [local go_sem ↓] Go.wp_at_zero Go.wp_at_succ

theorem row_one {w : World} {g : Nat} {t : TypeId} (s : Spc) (h : w.heap[g]? = some (.cells #[.int .i64 s.id, .int .i64 s.base, .int .i64 s.size] t)) : Src w (some ⟨g, 0, none⟩) 3 1 (recs spC [s]) := by
  refine ⟨rfl, (fun h => by cases h), fun ad ha j u hu => ?_⟩
  cases ha
  rw [Addr.add_lit, Nat.zero_add, cell_of_heap h]
  match j, hu with
  | 0, hu => simpa [recs, spC] using hu
  | 1, hu => simpa [recs, spC] using hu
  | 2, hu => simpa [recs, spC] using hu
  | j + 3, hu => simp [recs, spC] at hu
/-- a row of spaces of the call's own -/
def RowIn (w w' : World) (tb : Nat) (a : Option Addr) (cap : Nat) (L : List Spc) : Prop := SpRow w' a cap L ∧ ∀ g, blk a = some g → w.heap.size ≤ g ∧ g ≠ tb
theorem RowIn.same {w w1 w2 : World} {tb : Nat} {a : Option Addr} {cap : Nat} {L : List Spc} (h : RowIn w w1 tb a cap L) (hk : Keeps Nil w1 w2) : RowIn w w2 tb a cap L := ⟨RecRow.keeps h.1 hk (fun _ _ h => h), h.2⟩
theorem RowIn.tb {w w1 w2 : World} {tb : Nat} {a : Option Addr} {cap : Nat} {L : List Spc} (h : RowIn w w1 tb a cap L) (hk : Keeps (· = tb) w1 w2) : RowIn w w2 tb a cap L := ⟨RecRow.keeps h.1 hk (fun g hg e => (h.2 g hg).2 e), h.2⟩
theorem RowIn.snoc {w W w5 : World} {tb lc cap2 p : Nat} {z : Int} {T L : List Spc} {la a2 : Option Addr} {s : Spc} (hI : SpIn w W tb z T) (hR : RowIn w W tb la lc L) (hp : L.length = p)
    (hr : RowAt w5 30 3 a2 (p + 1) cap2 (recs spC L ++ recs spC [s])) (hk : Keeps (fun k => blk la = some k) W w5) (hb : blk a2 = blk la ∨ blk a2 = some W.heap.size ∧ W.heap.size < w5.heap.size) :
    SpIn w w5 tb z T ∧ RowIn w w5 tb a2 cap2 (L ++ [s]) := by
  refine ⟨hI.other hk (fun e => (hR.2 tb e).2 rfl) (fun k e => (hR.2 k e).1), ?_, fun g hg => ?_⟩
  · unfold SpRow RecRow
    rw [recs_app, List.length_append, hp]
    exact hr
  · rcases hb with e | ⟨e, _⟩
    · exact hR.2 g (by rw [← e]; exact hg)
    · rw [e] at hg
      cases hg
      exact ⟨hI.keep.size, fun e => by have := lt_of_heap hI.at_; omega⟩

set_option maxHeartbeats 8000000 in
set_option maxRecDepth 100000 in
theorem first_any (keys which : Int) (ax : Option Addr) (capx : Nat) (xs : List Int) (w : World) (h0 : -9223372036854775808 ≤ keys) (h1 : keys ≤ 9223372036854775807) (hw0 : -9223372036854775808 ≤ which) (hw1 : which ≤ 9223372036854775807)
    (hx : IntsAt w ax xs) (hxr : ∀ j, j < xs.length → -9223372036854775808 ≤ gi xs j ∧ gi xs j ≤ 9223372036854775807) (hmx : xs.length ≤ maxLen) :
    Calls Try.prog 4 #[.int .i64 keys, .slice ax xs.length capx, .int .i64 which] w fun e w' => e = .returned (.bool true) ∧ Keeps Nil w w' := by
  obtain ⟨i0, hi30, hz0, hz1, hz2⟩ := info_parts info30
  obtain ⟨a, ha⟩ : ∃ a, absI keys = a := ⟨_, rfl⟩
  have ha0 : 0 ≤ a := by rw [← ha]; exact absI_nonneg _
  have hA := Lib.hid (fun W => abs_val keys a W h0 h1 ha)
  obtain ⟨b, hb⟩ : ∃ b, absI which = b := ⟨_, rfl⟩
  have hb0 : 0 ≤ b := by rw [← hb]; exact absI_nonneg _
  have hBw := Lib.hid (fun W => abs_val which b W hw0 hw1 hb)
  have ham : 0 ≤ a % 300 := by omega
  have ham2 : a % 300 ≤ 299 := by omega
  have hmx2 : xs.length ≤ 9223372036854775807 := by unfold maxLen at hmx; omega
  have hx' := Lib.hid hx
  have hxr' := Lib.hid hxr
  obtain ⟨n, hn⟩ : ∃ n, xs.length = n := ⟨_, rfl⟩
  have hn' := Lib.hid hn
  rw [hn] at hmx2 ⊢
  have hAw := Lib.hid (awake_any w)
  have hi30' := Lib.hid hi30
  have hz0' := Lib.hid hz0
  have hz1' := Lib.hid hz1
  have hz2' := Lib.hid hz2
  clear hx hxr hmx ha hn hb hi30 hz0 hz1 hz2
  go_enter Try.func4, Try.ntmps4
  go_wp2_with fail
  refine (hAw.out).mono ?_
  rintro e w1 ⟨rfl, k1⟩
  have k1' := Lib.hid k1
  clear k1 hAw
  go_wp2_with fail
  refine (hA.out _).mono ?_
  rintro e w2 ⟨rfl, rfl⟩
  obtain ⟨z, hz⟩ : ∃ z, 1 + a % 300 = z := ⟨_, rfl⟩
  have hz1 : 1 ≤ z := by omega
  have hz2 : z ≤ 300 := by omega
  have hNew := Lib.hid (new_in k1'.out hz1 (by omega))
  go_wp2_with fail
  clear hz hA ham ham2 ha0
  refine (hNew.out).mono ?_
  rintro e w2 ⟨rfl, hI, hk⟩
  obtain ⟨tb, htb⟩ : ∃ tb, w1.heap.size = tb := ⟨_, rfl⟩
  rw [htb] at hI ⊢
  have hI0 := Lib.hid hI
  clear hI hk hNew htb
  go_wp2_with fail
  go_loopw [10, 11, 12, 13] (fun cl c _ _ wx => ∃ (q : Nat) (L : List Spc) (la : Option Addr) (lc : Nat), q ≤ n ∧ q ≤ 16 ∧ c = .int .i64 q ∧ cl = .slice la L.length lc ∧ L.length ≤ q ∧ Stk 0 0 L ∧ SpIn w wx tb z (Zs L) ∧ RowIn w wx tb la lc L) (fun _ c _ _ _ => n - (intOf c).toNat)
  case atStart => exact ⟨0, [], none, 0, by omega, by omega, rfl, rfl, by simp, True.intro, hI0.out, RecRow.nil _ _, fun g h => by cases h⟩
  case round =>
    obtain ⟨q, L, la, lc, hq, hq16, rfl, rfl, hLq, hS, hI, hR⟩ := hrel
    have hS' := Lib.hid hS
    have hI' := Lib.hid hI
    have hR' := Lib.hid hR
    by_cases hin : q < n ∧ q < 16
    · obtain ⟨hi1, hi2⟩ := hin
      obtain ⟨xb, xo, rfl, hc0⟩ := (hx'.out.keeps hI.keep (fun _ _ _ h => h)) q (by rw [hn'.out]; exact hi1)
      have hr := hxr'.out q (by rw [hn'.out]; exact hi1)
      obtain ⟨c, hc⟩ : ∃ c, absI (gi xs q) = c := ⟨_, rfl⟩
      have hcc0 : 0 ≤ c := by rw [← hc]; exact absI_nonneg _
      have hAb := Lib.hid (fun W => abs_val (gi xs q) c W hr.1 hr.2 hc)
      have hc1 : 0 ≤ c % 30 := by omega
      have hc2 : c % 30 ≤ 29 := by omega
      have g0 : (0 : Int) ≤ (q : Int) := by omega
      have g1 : (q : Int) < (n : Int) := by omega
      have g2 : (q : Int) < 16 := by omega
      clear hI hc hr hS hR
      go_wp2_with fail
      refine (hAb.out _).mono ?_
      rintro e w2 ⟨rfl, rfl⟩
      go_wp2_with fail
      have hC := hI'.out.create (size := 1 + c % 30) (by omega)
      rcases stk_create hI'.out.ok hS'.out (by omega) (show 1 ≤ 1 + c % 30 by omega) with ⟨e1, s, e2, e3, e4⟩ | ⟨e1, e3⟩
      · rw [e1, e2, e3] at hC
        have hC' := Lib.hid hC
        have e4' := Lib.hid e4
        obtain ⟨u, v, y⟩ := s
        simp only [spV] at hC'
        clear hC e1 e2 e3 e4
        refine (hC'.out).mono ?_
        rintro e w3 ⟨rfl, hI, hk⟩
        have hI3 := Lib.hid hI
        have hR3 := Lib.hid (hR'.out.tb hk)
        obtain ⟨p, hp⟩ : ∃ p, L.length = p := ⟨_, rfl⟩
        have hp' := Lib.hid hp
        have hml := Lib.hid (show p + 1 ≤ maxLen by unfold maxLen; omega)
        have hmb := Lib.hid (show (p + 1) * 24 ≤ 140737488355328 by omega)
        have hSr0 := row_one ⟨u, v, y⟩ (heap_alloc_new (w3.alloc (.cells #[.int .i64 u, .int .i64 v, .int .i64 y] 30)) (.cells #[.int .i64 u, .int .i64 v, .int .i64 y] 30))
        rw [show (w3.alloc (.cells #[.int .i64 u, .int .i64 v, .int .i64 y] 30)).heap.size = w3.heap.size + 1 by simp] at hSr0
        have hSr := Lib.hid hSr0
        have hRr : Hid (RowAt ((w3.alloc (.cells #[.int .i64 u, .int .i64 v, .int .i64 y] 30)).alloc (.cells #[.int .i64 u, .int .i64 v, .int .i64 y] 30)) 30 3 la p lc (recs spC L)) := by
          have := (hR3.out.same (((Keeps.refl Nil w3).alloc (.cells #[.int .i64 u, .int .i64 v, .int .i64 y] 30)).alloc (.cells #[.int .i64 u, .int .i64 v, .int .i64 y] 30))).1
          unfold SpRow RecRow at this
          rw [hp] at this
          exact this
        rw [hp] at hLq ⊢
        clear hI hk hC' hAb hc0 hcc0 hc1 hc2 hp hSr0
        go_wp2_with (at_builtin; refine wpList_app _ rfl _ _ 34 rfl 30 i0 _ 3 24 Try.underlying34 hi30'.out hz0'.out hz1'.out hz2'.out rfl (by decide) la p lc (recs spC L) rfl _ 1 1 (recs spC [⟨u, v, y⟩]) rfl ?_ (by exact hRr.out) (by exact hSr.out) (fun h => by cases h) (spC_one [⟨u, v, y⟩]) (by exact hml.out) (by exact hmb.out); intro a2 cap2 w5 hr5 hk5 hb5)
        obtain ⟨hI5, hR5⟩ := RowIn.snoc (hI3.out.same (((Keeps.refl Nil w3).alloc _).alloc _)) (hR3.out.same (((Keeps.refl Nil w3).alloc _).alloc _)) hp'.out hr5 hk5 hb5
        have hI5' := Lib.hid hI5
        have hR5' := Lib.hid hR5
        clear hr5 hk5 hb5 hI5 hR5
        go_roundw
        case rel => exact ⟨q + 1, L ++ [⟨u, v, y⟩], a2, cap2, by omega, by omega, by go_num, by rw [List.length_append, hp'.out]; rfl, by rw [List.length_append, hp'.out]; simp; omega, e4'.out, hI5'.out, hR5'.out⟩
        case measure => simp [intOf]; omega
      · rw [e1, e3] at hC
        have hC' := Lib.hid hC
        clear hC e1 e3
        refine (hC'.out).mono ?_
        rintro e w3 ⟨rfl, hI, hk⟩
        have hI3 := Lib.hid hI
        have hR3 := Lib.hid (hR'.out.tb hk)
        clear hI hk hC' hAb hc0 hcc0 hc1 hc2
        simp only [spV]
        go_wp2_with fail
        go_roundw
        case rel => exact ⟨q + 1, L, la, lc, by omega, by omega, by go_num, rfl, by omega, hS'.out, hI3.out.same ((Keeps.refl Nil w3).alloc _), hR3.out.same ((Keeps.refl Nil w3).alloc _)⟩
        case measure => simp [intOf]; omega
    · have hex : ((q : Int) < (n : Int) ∧ ¬ (q : Int) < 16) ∨ ¬ (q : Int) < (n : Int) := by omega
      clear hI hR hS hin
      by_cases hp0 : L.length = 0
      · rw [hp0]
        rcases hex with ⟨hg, hg2⟩ | hg <;> (
          go_wp2_with fail
          go_ret
          exact ⟨rfl, hI'.out.keep⟩)
      · obtain ⟨p, hp⟩ : ∃ p, L.length = p := ⟨_, rfl⟩
        have hp' := Lib.hid hp
        rw [hp] at hLq hp0 ⊢
        have hpi : ((p : Int) == 0) = false := beq_eq_false_iff_ne.2 (by omega)
        have hpi2 : ¬ (p : Int) = 0 := by omega
        obtain ⟨j, hj⟩ : ∃ j : Nat, b % (p : Int) = (j : Int) := ⟨(b % (p : Int)).toNat, by have := Int.emod_nonneg b hpi2; omega⟩
        have hjp : j < p := by have := Int.emod_lt_of_pos b (show (0 : Int) < (p : Int) by omega); omega
        obtain ⟨x, hx2⟩ : ∃ x, L[j]? = some x := ⟨_, List.getElem?_eq_getElem (by omega)⟩
        obtain ⟨r1, r2, r3, r4, r5⟩ := stk_again hI'.out.ok hS'.out (by omega) hx2
        obtain ⟨t1, t2⟩ := tat_zs hI'.out.ok hS'.out hx2
        obtain ⟨la', rfl, hla'⟩ := RecRow.at hR'.out.1 (by omega)
        have hF := hI'.out.free
        obtain ⟨fr, hfr⟩ : ∃ fr, z - spSum (Zs L) = fr := ⟨_, rfl⟩
        rw [hfr] at hF
        have hF' := Lib.hid hF
        have hj' := Lib.hid hj
        have hx2' := Lib.hid hx2
        have hbp : b.tmod (p : Int) = (j : Int) := by rw [Int.tmod_eq_emod_of_nonneg hb0]; exact hj
        have hR1 := Lib.hid r1
        have hR2 := Lib.hid r2
        have hR3 := Lib.hid r3
        have hR4 := Lib.hid r4
        have hR5 := Lib.hid r5
        have hT1 := Lib.hid t1
        have hT2 := Lib.hid t2
        have hfr' := Lib.hid hfr
        clear r1 r2 r3 r4 r5 t1 t2 hF hfr hp hla' hx2
        rcases hex with ⟨hg, hg2⟩ | hg <;> (
          go_wp2_with fail
          refine (hF'.out).mono ?_
          rintro e w2 ⟨rfl, hk⟩
          have hI2 := Lib.hid (hI'.out.same hk)
          have hR2' := Lib.hid (hR'.out.same hk)
          clear hk
          go_wp2_with fail
          refine (hBw.out _).mono ?_
          rintro e w3 ⟨rfl, rfl⟩
          obtain ⟨u, v, y⟩ := x
          obtain ⟨c0, c1, c2⟩ := SpRow.cells hR2'.out.1 hx2'.out
          have g3 : (0 : Int) ≤ (j : Int) := by omega
          have g4 : (j : Int) < (p : Int) := by omega
          have hD := (hI2.out.same ((Keeps.refl Nil w2).alloc (.cells #[.int .i64 u, .int .i64 v, .int .i64 y] 30))).delete u
          rw [hT1.out, show ferr ⟨u, v, y⟩ = 0 from if_neg hT2.out] at hD
          simp only [spV] at hD
          have hD' := Lib.hid hD
          have htb2 := Lib.hid (lt_of_heap hI2.out.at_)
          have hxo := Lib.hid (hI2.out.ok.all (mem_all.2 ⟨List.mem_of_getElem? (show (Zs L)[j]? = some ⟨u, v, y⟩ by unfold Zs; rw [List.getElem?_append_left (by have := hp'.out; omega)]; exact hx2'.out), hT2.out⟩))
          clear hD
          go_wp2_with fail
          clear hj hbp g3 g4 c0 c1 c2
          refine (hD'.out).mono ?_
          rintro e w4 ⟨rfl, hI, hk⟩
          have hI4 := Lib.hid (hI.same ((Keeps.refl Nil w4).alloc (.cells #[.int .i64 u, .int .i64 v, .int .i64 y] 30)))
          have hb1 := Lib.hid (((hk.heap (heap_alloc_new w2 _) (fun e => by have := htb2.out; omega))))
          have hb1a := Lib.hid (((Keeps.refl Nil w4).alloc (.cells #[.int .i64 u, .int .i64 v, .int .i64 y] 30)).heap hb1.out (fun h => h))
          have hb2a := Lib.hid (heap_alloc_new w4 (.cells #[.int .i64 u, .int .i64 v, .int .i64 y] 30))
          have hF2 := Lib.hid (show ∀ W, Keeps Nil (w4.alloc (.cells #[.int .i64 u, .int .i64 v, .int .i64 y] 30)) W → Calls Try.prog 14 #[.pointer (some ⟨tb, 0, none⟩)] W fun e w' => e = .returned (.int .i64 (fr + y)) ∧ Keeps Nil W w' from fun W hW => by
            have h := (hI4.out.same hW).free
            rw [hR5.out, show z - (spSum (Zs L) - y) = fr + y by have := hfr'.out; omega] at h
            exact h)
          have hLC := Lib.hid (show ∀ W, Keeps Nil (w4.alloc (.cells #[.int .i64 u, .int .i64 v, .int .i64 y] 30)) W → W.cell? ⟨w2.heap.size, 0, none⟩ = some (.int .i64 u) ∧ W.cell? ⟨w2.heap.size, 1, none⟩ = some (.int .i64 v) ∧ W.cell? ⟨w2.heap.size, 2, none⟩ = some (.int .i64 y) ∧ W.cell? ⟨w4.heap.size, 0, none⟩ = some (.int .i64 u) ∧ W.cell? ⟨w4.heap.size, 1, none⟩ = some (.int .i64 v) ∧ W.cell? ⟨w4.heap.size, 2, none⟩ = some (.int .i64 y) from fun W hW => by
            have ha := hW.heap hb1a.out (fun h => h)
            have hb := hW.heap hb2a.out (fun h => h)
            exact ⟨cell_of_heap ha 0, cell_of_heap ha 1, cell_of_heap ha 2, cell_of_heap hb 0, cell_of_heap hb 1, cell_of_heap hb 2⟩)
          have s1 : 1 ≤ y := hxo.out.size
          have s2 : 0 ≤ v := hxo.out.base
          have s3 : v + y ≤ z := hxo.out.top
          have hfb : -65536 ≤ fr ∧ fr ≤ 300 := by
            have h4 := spSum_bound hI2.out.ok hI2.out.k1 (Zs L).length (Nat.le_refl _)
            rw [List.take_length] at h4
            have h6 := hI2.out.ok.len
            have h7 := hfr'.out
            omega
          have x1 : IntKind.i64.wrap (fr + y) = fr + y := by simp [IntKind.wrap, IntKind.signed, IntKind.bits]; omega
          clear hI hk s1 s2 s3 hfb
          go_wp2_with fail
          go_region_held3 (fun W => W.cell? ⟨w2.heap.size, 0, none⟩ = some (.int .i64 u) ∧ W.cell? ⟨w2.heap.size, 1, none⟩ = some (.int .i64 v) ∧ W.cell? ⟨w2.heap.size, 2, none⟩ = some (.int .i64 y) ∧ W.cell? ⟨w4.heap.size, 0, none⟩ = some (.int .i64 u) ∧ W.cell? ⟨w4.heap.size, 1, none⟩ = some (.int .i64 v) ∧ W.cell? ⟨w4.heap.size, 2, none⟩ = some (.int .i64 y)) ((refine hLC.out _ ?_; first | exact (Keeps.refl Nil _).drew | exact hk5'.out)) ((go_at_call 14; refine (hF2.out _ ((Keeps.refl Nil _).drew)).mono ?_; rintro e w5 ⟨rfl, hk5⟩; have hk5' := Lib.hid ((Keeps.refl Nil _).drew.trans hk5); clear hk5))
          have hC := (hI4.out.same hk5'.out).create (size := y) (by have h1 : 0 ≤ v := hxo.out.base; have h2 : v + y ≤ z := hxo.out.top; omega)
          have q2 : crE z (tdel (Zs L) u) y = 0 := hR2.out
          have q3 : crS z (tdel (Zs L) u) y = ⟨u, v, y⟩ := hR3.out
          have q4 : crT z (tdel (Zs L) u) y = Zs L := hR4.out
          rw [q2, q3, q4] at hC
          simp only [spV] at hC
          have hC' := Lib.hid hC
          have hb1b := Lib.hid (hk5'.out.heap hb1a.out (fun h => h))
          obtain ⟨c0, c1, c2, _, _, _⟩ := hLC.out _ hk5'.out
          have hn1 := Lib.hid (show w2.heap.size ≠ tb by have := htb2.out; omega)
          clear hC q2 q3 q4 hF2 hLC hD' x1 hF'
          go_wp2_with fail
          refine (hC'.out).mono ?_
          rintro e w6 ⟨rfl, hI, hk⟩
          have hI6 := Lib.hid (hI.same ((Keeps.refl Nil w6).alloc (.cells #[.int .i64 u, .int .i64 v, .int .i64 y] 30)))
          have hbb := ((hk.heap hb1b.out (fun e => hn1.out e)))
          have hbc := ((Keeps.refl Nil w6).alloc (.cells #[.int .i64 u, .int .i64 v, .int .i64 y] 30)).heap hbb (fun h => h)
          have d0 := cell_of_heap hbc 0
          have d1 := cell_of_heap hbc 1
          have d2 := cell_of_heap hbc 2
          have hF3 := hI6.out.free
          rw [hfr'.out] at hF3
          have hF3' := Lib.hid hF3
          clear hI hk hbb hbc hF3 hC' c0 c1 c2
          go_wp2_with fail
          refine (hF3'.out).mono ?_
          rintro e w7 ⟨rfl, hk7⟩
          have hk7' := Lib.hid hk7
          clear hk7
          go_wp2_with fail
          go_ret
          exact ⟨by simp, hI6.out.keep.trans hk7'.out⟩)
end Go.Proofs.Ytmdgbcbnciaikaa
