/- stripe: the reference: may a leaf be? -/
import Derived.Test.YtdgcbjkopmlegaaG
import Derived.Laws.BitsAllLaws
namespace Go.Proofs.Ytdgcbjkopmlegaa
open Go.RowKit

attribute [local go_sem ↓] Go.wp_at_zero Go.wp_at_succ

/-- what the reference asks at one place -/
def placeBad (S : Int) (s : Sl) (d : List Int) : Bool := slBad s || secBad S d
theorem mayB_ref {S N : Int} {x : Lf} {n : Nat} (h1 : x.sl.length = n) (h2 : x.se.length = n) (hN : N = n) : mayB S N x = true ↔ ∀ (i : Nat) (s : Sl) (d : List Int), x.sl[i]? = some s → x.se[i]? = some d → placeBad S s d = false := by
  constructor
  · intro h i s d hs hd
    have hp := mayB_parts h
    have a := hp.2.2.1 _ (List.mem_of_getElem? hs)
    have b := hp.2.2.2 _ (List.mem_of_getElem? hd)
    unfold placeBad
    rw [a, b]; rfl
  · intro h
    unfold mayB
    have a : x.sl.any slBad = false := by
      cases hb : x.sl.any slBad
      · rfl
      · obtain ⟨s, hs, hs2⟩ := List.any_eq_true.1 hb
        obtain ⟨i, hi, rfl⟩ := List.mem_iff_getElem.1 hs
        have := h i _ _ (List.getElem?_eq_getElem hi) (List.getElem?_eq_getElem (show i < x.se.length by omega))
        unfold placeBad at this
        rw [hs2] at this; cases this
    have b : x.se.any (secBad S) = false := by
      cases hb : x.se.any (secBad S)
      · rfl
      · obtain ⟨s, hs, hs2⟩ := List.any_eq_true.1 hb
        obtain ⟨i, hi, rfl⟩ := List.mem_iff_getElem.1 hs
        have := h i _ _ (List.getElem?_eq_getElem (show i < x.sl.length by omega)) (List.getElem?_eq_getElem hi)
        unfold placeBad at this
        rw [hs2, Bool.or_true] at this; cases this
    rw [a, b, decide_eq_true (by omega), decide_eq_true (by omega)]; rfl

set_option maxHeartbeats 4000000 in
set_option maxRecDepth 100000 in
theorem may27 {w : World} {sa ba : Option Addr} {sc bc : Nat} {x : Lf} (S N T : Int) (h : LfAt w sa ba x) (hok : LfOk x) (hwf : ∀ s ∈ x.sl, 0 ≤ s.seq ∧ s.seq ≤ 18446744073709551615) :
    Calls Try.prog 27 #[.agg #[.int .i64 S, .int .i64 N, .int .i64 T], .agg #[.slice sa x.sl.length sc, .slice ba x.se.length bc]] w fun e w' => e = .returned (.bool (mayB S N x)) ∧ Keeps Nil w w' := by
  have h' := Lib.hid h
  have hok' := Lib.hid hok
  have hwf' := Lib.hid hwf
  obtain ⟨n, hn⟩ : ∃ n, x.sl.length = n := ⟨_, rfl⟩
  obtain ⟨m, hm⟩ : ∃ m, x.se.length = m := ⟨_, rfl⟩
  have hm0 : mayB S N x = (decide ((n : Int) = N) && (decide ((m : Int) = N) && (!(x.sl.any slBad) && !(x.se.any (secBad S))))) := by rw [← hn, ← hm]; rfl
  rw [hn, hm]
  have hm' := Lib.hid hm0
  have hn' := Lib.hid hn
  have hmm' := Lib.hid hm
  clear h hok hm0 hn hm hwf
  by_cases h1 : (n : Int) = N
  · have e1 : ((n : Int) != N) = false := by simpa using h1
    by_cases h2 : (m : Int) = N
    · have e2 : ((m : Int) != N) = false := by simpa using h2
      have hnm : m = n := by omega
      subst hnm
      have hmb : m ≤ 9223372036854775807 := by have := hok'.out.2.1; have := hmm'.out; omega
      have hR := Lib.hid (mayB_ref (S := S) hn'.out hmm'.out h1.symm)
      have h1' := Lib.hid h1
      clear h1 h2 hm'
      go_enter Try.func27, Try.ntmps27
      go_wp2_with fail
      have hA1 : Keeps Nil w ((w.alloc (.cells #[.int .i64 S, .int .i64 N, .int .i64 T] 27)).alloc (.cells #[.slice sa m sc, .slice ba m bc] 35)) := ((Keeps.refl Nil w).alloc _).alloc _
      have hx1 := heap_alloc_old (o' := .cells #[.slice sa m sc, .slice ba m bc] 35) (heap_alloc_new w (.cells #[.int .i64 S, .int .i64 N, .int .i64 T] 27))
      have hx2 := heap_alloc_new (w.alloc (.cells #[.int .i64 S, .int .i64 N, .int .i64 T] 27)) (.cells #[.slice sa m sc, .slice ba m bc] 35)
      rw [heap_alloc_size] at hx2
      obtain ⟨w2, hw2⟩ : ∃ w2, (w.alloc (.cells #[.int .i64 S, .int .i64 N, .int .i64 T] 27)).alloc (.cells #[.slice sa m sc, .slice ba m bc] 35) = w2 := ⟨_, rfl⟩
      rw [hw2] at hA1 hx1 hx2 ⊢
      have hA1' := Lib.hid hA1
      have hx1' := Lib.hid hx1
      have hx2' := Lib.hid hx2
      clear hw2 hA1 hx1 hx2
      go_loopw [5] (fun c wx => ∃ q : Nat, q ≤ m ∧ c = .int .i64 q ∧ Keeps Nil w2 wx ∧ Hid (∀ (i : Nat) (s : Sl) (d : List Int), i < q → x.sl[i]? = some s → x.se[i]? = some d → placeBad S s d = false)) (fun c _ => m - (intOf c).toNat)
      case atStart => exact ⟨0, Nat.zero_le _, rfl, Keeps.refl _ _, fun i s d h => by omega⟩
      case round =>
        obtain ⟨q, hq, rfl, hK, hI⟩ := hrel
        have kk := hA1'.out.trans hK
        have hK' := Lib.hid kk
        have hKK := Lib.hid hK
        have v1 := hK.heap hx1'.out (fun h => h)
        have v2 := hK.heap hx2'.out (fun h => h)
        have l0 := cell_of_heap v1 0
        have l1 := cell_of_heap v1 1
        have o0 := cell_of_heap v2 0
        have o1 := cell_of_heap v2 1
        simp at l0 l1 o0 o1
        by_cases hlt : q < m
        · have dlt : decide ((q : Int) < N) = true := decide_eq_true (by have := h1'.out; omega)
          have hq1 : q < x.sl.length := by rw [hn'.out]; exact hlt
          have hq2 : q < x.se.length := by rw [hmm'.out]; exact hlt
          obtain ⟨xb, xo, rfl, x0, x1, x2⟩ := (h'.out.sl.nil kk) q hq1
          obtain ⟨zb, zo, ra, rcap, rfl, z0, -⟩ := (h'.out.se.nil kk) q hq2
          obtain ⟨⟨ks, ss, qs⟩, hs⟩ : ∃ s, x.sl[q] = s := ⟨_, rfl⟩
          obtain ⟨dx, hd⟩ : ∃ d, x.se[q] = d := ⟨_, rfl⟩
          have hsq := hwf'.out _ (List.getElem_mem hq1)
          have hsm := List.getElem?_eq_getElem hq1
          have hdm := List.getElem?_eq_getElem hq2
          rw [hs] at x0 x1 x2 hsq hsm
          rw [hd] at z0 hdm
          simp only at x0 x1 x2 hsq
          obtain ⟨hsq0, hsq1⟩ := hsq
          have hbad := Lib.hid (show placeBad S ⟨ks, ss, qs⟩ dx = true → mayB S N x = false from fun hb => by
            cases hc : mayB S N x
            · rfl
            · have := hR.out.1 hc q _ _ hsm hdm
              rw [hb] at this; cases this)
          have hnext := Lib.hid (show placeBad S ⟨ks, ss, qs⟩ dx = false → ∀ (i : Nat) (s : Sl) (d : List Int), i < q + 1 → x.sl[i]? = some s → x.se[i]? = some d → placeBad S s d = false from fun hb i s d hi hs2 hd2 => by
            by_cases hiq : i < q
            · exact hI.out i s d hiq hs2 hd2
            · have : i = q := by omega
              subst this
              rw [hsm] at hs2; rw [hdm] at hd2
              cases hs2; cases hd2
              exact hb)
          obtain ⟨nd, hnd⟩ : ∃ nd, dx.length = nd := ⟨_, rfl⟩
          rw [hnd] at z0
          have hpb := Lib.hid (show placeBad S ⟨ks, ss, qs⟩ dx = (decide (ss < 0 ∨ 3 < ss ∨ 281474976710656 ≤ qs) || decide (nd ≠ 0 ∧ (nd : Int) ≠ S)) by rw [← hnd]; rfl)
          clear hK kk v1 v2 hs hd hsm hdm hI hnd hq1 hq2
          by_cases g1 : ss < 0
          · have t1 := decide_eq_true g1
            have hfin := Lib.hid (hbad.out (by rw [hpb.out, decide_eq_true (.inl g1)]; rfl))
            clear g1
            go_wp2_with fail
            go_ret
            exact ⟨ret_bool hfin.out.symm, hK'.out⟩
          · have t1 := decide_eq_false g1
            by_cases g2 : 3 < ss
            · have t2 := decide_eq_true g2
              have hfin := Lib.hid (hbad.out (by rw [hpb.out, decide_eq_true (.inr (.inl g2))]; rfl))
              clear g1 g2
              go_wp2_with fail
              go_ret
              exact ⟨ret_bool hfin.out.symm, hK'.out⟩
            · have t2 := decide_eq_false g2
              by_cases g3 : 281474976710656 ≤ qs
              · have t3 : (qs / 281474976710656 != 0) = true := by
                  simp only [bne_iff_ne, ne_eq]; omega
                have hfin := Lib.hid (hbad.out (by rw [hpb.out, decide_eq_true (.inr (.inr g3))]; rfl))
                clear g1 g2 g3
                go_wp2_with fail
                go_ret
                exact ⟨ret_bool hfin.out.symm, hK'.out⟩
              · have t3 : (qs / 281474976710656 != 0) = false := by
                  have : qs / 281474976710656 = 0 := by omega
                  rw [this]; rfl
                have hsl : decide (ss < 0 ∨ 3 < ss ∨ 281474976710656 ≤ qs) = false := decide_eq_false (by omega)
                rw [hsl, Bool.false_or] at hpb
                clear g1 g2 g3 hsl
                by_cases g4 : nd = 0
                · subst g4
                  have hnx := Lib.hid (hnext.out (by rw [hpb.out]; simp))
                  go_wp2_with fail
                  go_quiet (fail)
                  go_wp2_with fail
                  go_roundw
                  case rel => exact ⟨q + 1, by omega, by go_num, hKK.out.drewN _, hnx.out⟩
                  case measure => simp [intOf]; omega
                · have t4 : ((nd : Int) != 0) = true := by simpa using g4
                  have t4' : (nd != 0) = true := by simpa using g4
                  by_cases g5 : (nd : Int) = S
                  · have t5 : ((nd : Int) != S) = false := by simpa using g5
                    have hnx := Lib.hid (hnext.out (by rw [hpb.out]; simp [g5]))
                    clear g4 g5
                    go_wp2_with fail
                    go_quiet (fail)
                    go_wp2_with fail
                    go_roundw
                    case rel => exact ⟨q + 1, by omega, by go_num, hKK.out.drewN _, hnx.out⟩
                    case measure => simp [intOf]; omega
                  · have t5 : ((nd : Int) != S) = true := by simpa using g5
                    have hfin := Lib.hid (hbad.out (by rw [hpb.out]; exact decide_eq_true ⟨g4, g5⟩))
                    clear g4 g5
                    go_wp2_with fail
                    go_quiet (fail)
                    go_wp2_with fail
                    go_ret
                    exact ⟨ret_bool hfin.out.symm, hK'.out.drewN _⟩
        · have dlt : decide ((q : Int) < N) = false := decide_eq_false (by have := h1'.out; omega)
          have hfin := Lib.hid (show mayB S N x = true from hR.out.2 (fun i s d hs hd => hI.out i s d (by have := (List.getElem?_eq_some_iff.1 hs).1; have := hn'.out; omega) hs hd))
          clear hK kk v1 v2 hI
          go_wp2_with fail
          go_ret
          exact ⟨ret_bool hfin.out.symm, hK'.out⟩
    · have e2 : ((m : Int) != N) = true := by simpa using h2
      have hm2 := Lib.hid (show mayB S N x = false by rw [hm'.out, decide_eq_true h1, decide_eq_false h2]; rfl)
      clear h1 h2 hm'
      go_enter Try.func27, Try.ntmps27
      go_wp2_with fail
      go_ret
      exact ⟨ret_bool hm2.out.symm, ((Keeps.refl Nil w).alloc _).alloc _⟩
  · have e1 : ((n : Int) != N) = true := by simpa using h1
    have hm2 := Lib.hid (show mayB S N x = false by rw [hm'.out, decide_eq_false h1]; rfl)
    clear h1 hm'
    go_enter Try.func27, Try.ntmps27
    go_wp2_with fail
    go_ret
    exact ⟨ret_bool hm2.out.symm, ((Keeps.refl Nil w).alloc _).alloc _⟩
end Go.Proofs.Ytdgcbjkopmlegaa
