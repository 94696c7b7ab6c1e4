/- SpaceAgain: the walk -/
import Derived.Test.YtmdgbcbnciaikaaR
namespace Go.Proofs.Ytmdgbcbnciaikaa
open Go.RowKit

attribute [local go_sem ↓] Go.wp_at_zero Go.wp_at_succ

set_option maxHeartbeats 8000000 in
set_option maxRecDepth 100000 in
theorem again_any (keys : Int) (ax ay : Option Addr) (capx capy : Nat) (xs ys : List Int) (w : World) (h0 : -9223372036854775808 ≤ keys) (h1 : keys ≤ 9223372036854775807)
    (hx : IntsAt w ax xs) (hxr : ∀ j, j < xs.length → -9223372036854775808 ≤ gi xs j ∧ gi xs j ≤ 9223372036854775807) (hmx : xs.length ≤ maxLen)
    (hy : IntsAt w ay ys) (hyr : ∀ j, j < ys.length → -9223372036854775808 ≤ gi ys j ∧ gi ys j ≤ 9223372036854775807) (hmy : ys.length ≤ maxLen) :
    Calls Try.prog 6 #[.int .i64 keys, .slice ax xs.length capx, .slice ay ys.length capy] w fun e w' => e = .returned (.bool true) ∧ Keeps Nil w w' := by
  obtain ⟨a, ha⟩ : ∃ a, absI keys = a := ⟨_, rfl⟩
  have ha0 : 0 ≤ a := by rw [← ha]; exact absI_nonneg _
  have hA := Lib.hid (fun W => abs_val keys a W h0 h1 ha)
  have ham : 0 ≤ a % 300 := by omega
  have ham2 : a % 300 ≤ 299 := by omega
  have hmx2 : xs.length ≤ 9223372036854775807 := by unfold maxLen at hmx; omega
  have hmy2 : ys.length ≤ 9223372036854775807 := by unfold maxLen at hmy; omega
  have hx' := Lib.hid hx
  have hy' := Lib.hid hy
  have hxr' := Lib.hid hxr
  have hyr' := Lib.hid hyr
  obtain ⟨n, hn⟩ : ∃ n, xs.length = n := ⟨_, rfl⟩
  obtain ⟨m, hm⟩ : ∃ m, ys.length = m := ⟨_, rfl⟩
  have hn' := Lib.hid hn
  have hm' := Lib.hid hm
  rw [hn] at hmx2 ⊢
  rw [hm] at hmy2 ⊢
  have hAw := Lib.hid (awake_any w)
  clear hx hy hxr hyr hmx hmy ha hn hm
  go_enter Try.func6, Try.ntmps6
  go_wp2_with fail
  refine (hAw.out).mono ?_
  rintro e w1 ⟨rfl, k1⟩
  have k1' := Lib.hid k1
  clear k1 hAw
  go_wp2_with fail
  refine (hA.out _).mono ?_
  rintro e w2 ⟨rfl, rfl⟩
  obtain ⟨z, hz⟩ : ∃ z, 1 + a % 300 = z := ⟨_, rfl⟩
  have hz1 : 1 ≤ z := by omega
  have hz2 : z ≤ 300 := by omega
  have hNew := Lib.hid (new_in k1'.out hz1 (by omega))
  go_wp2_with fail
  clear hz hA ham ham2 ha0
  refine (hNew.out).mono ?_
  rintro e w2 ⟨rfl, hI, hk⟩
  obtain ⟨tb, htb⟩ : ∃ tb, w1.heap.size = tb := ⟨_, rfl⟩
  rw [htb] at hI ⊢
  have hI00 := Lib.hid hI
  have hNew2 := Lib.hid (new_in hI.keep hz1 (show z ≤ 4096 by omega))
  clear hI hk hNew htb
  go_wp2_with fail
  refine (hNew2.out).mono ?_
  rintro e w3 ⟨rfl, hU, hk⟩
  have hI0 := Lib.hid (hI00.out.same hk)
  have hut := Lib.hid (show ¬ w2.heap.size = tb by have := lt_of_heap hI00.out.at_; omega)
  obtain ⟨ub, hub⟩ : ∃ ub, w2.heap.size = ub := ⟨_, rfl⟩
  rw [hub] at hU hut ⊢
  have hU0 := Lib.hid hU
  clear hU hk hNew2 hub hI00
  go_wp2_with fail
  go_loopw [12] (fun c wx => ∃ (q : Nat) (T : List Spc), q ≤ n ∧ q ≤ 60 ∧ c = .int .i64 q ∧ SpIn w wx tb z T ∧ SpIn w wx ub z (List.replicate 16 sp0)) (fun c _ => n - (intOf c).toNat)
  case atStart => exact ⟨0, _, by omega, by omega, rfl, hI0.out, hU0.out⟩
  case round =>
    obtain ⟨q, T, hq, hq60, rfl, hI, hU⟩ := hrel
    have hU' := Lib.hid hU
    clear hU
    by_cases hin : q < n ∧ q < 60
    · obtain ⟨hi1, hi2⟩ := hin
      obtain ⟨xb, xo, rfl, hc0⟩ := (hx'.out.keeps hI.keep (fun _ _ _ h => h)) q (by rw [hn'.out]; exact hi1)
      have hr := hxr'.out q (by rw [hn'.out]; exact hi1)
      obtain ⟨b, hb⟩ : ∃ b, absI (gi xs q) = b := ⟨_, rfl⟩
      have hb0 : 0 ≤ b := by rw [← hb]; exact absI_nonneg _
      have hAb := Lib.hid (fun W => abs_val (gi xs q) b W hr.1 hr.2 hb)
      have hb1 : 0 ≤ b % 40 := by omega
      have hb2 : b % 40 ≤ 39 := by omega
      have hI1 := Lib.hid hI
      have g0 : (0 : Int) ≤ (q : Int) := by omega
      have g1 : (q : Int) < (n : Int) := by omega
      have g2 : (q : Int) < 60 := by omega
      clear hI hb hr
      go_wp2_with fail
      refine (hAb.out _).mono ?_
      rintro e w2 ⟨rfl, rfl⟩
      go_wp2_with fail
      refine (hI1.out.create' (by omega)).mono ?_
      rintro e w3 ⟨v3, T3, rfl, hI, hk⟩
      have hI3 := Lib.hid hI
      have hU3 := Lib.hid (hU'.out.other hk (fun e => hut.out e) (fun j e => by rw [e]; exact hI.new))
      clear hk hI1 hAb hc0 hb0 hb1 hb2
      by_cases hj : q < m
      · obtain ⟨yb, yo, rfl, hc1⟩ := (hy'.out.keeps hI.keep (fun _ _ _ h => h)) q (by rw [hm'.out]; exact hj)
        have hr := hyr'.out q (by rw [hm'.out]; exact hj)
        obtain ⟨c, hc⟩ : ∃ c, absI (gi ys q) = c := ⟨_, rfl⟩
        have hc0 : 0 ≤ c := by rw [← hc]; exact absI_nonneg _
        have hAc := Lib.hid (fun W => abs_val (gi ys q) c W hr.1 hr.2 hc)
        have g3 : (q : Int) < (m : Int) := by omega
        clear hI hc hr
        by_cases h3 : c % 3 = 0
        · have h3' : (c % 3 == 0) = true := by simpa using h3
          have hq0 : 0 ≤ c / 3 := by omega
          have hq1 : 0 ≤ c / 3 % 16 := by omega
          have hq2 : c / 3 % 16 ≤ 15 := by omega
          clear h3
          go_wp2_with fail
          refine (hAc.out _).mono ?_
          rintro e w4 ⟨rfl, rfl⟩
          go_wp2_with fail
          refine (hAc.out _).mono ?_
          rintro e w4 ⟨rfl, rfl⟩
          go_wp2_with fail
          refine (hI3.out.delete' _).mono ?_
          rintro e w5 ⟨v5, T5, rfl, hI, hk⟩
          have hI5 := Lib.hid hI
          have hU5 := Lib.hid (hU3.out.other hk (fun e => hut.out e) (fun j e => by rw [e]; exact hI.new))
          clear hI hk hq0 hq1 hq2 hc0 hc1
          go_wp2_with fail
          go_roundw
          case rel => exact ⟨q + 1, _, by omega, by omega, by go_num, hI5.out, hU5.out⟩
          case measure => simp [intOf]; omega
        · have h3' : (c % 3 == 0) = false := by simpa using h3
          clear h3
          go_wp2_with fail
          refine (hAc.out _).mono ?_
          rintro e w4 ⟨rfl, rfl⟩
          go_wp2_with fail
          go_roundw
          case rel => exact ⟨q + 1, _, by omega, by omega, by go_num, hI3.out, hU3.out⟩
          case measure => simp [intOf]; omega
      · have g3 : ¬ (q : Int) < (m : Int) := by omega
        clear hI
        go_wp2_with fail
        go_roundw
        case rel => exact ⟨q + 1, _, by omega, by omega, by go_num, hI3.out, hU3.out⟩
        case measure => simp [intOf]; omega
    · have hI1 := Lib.hid hI
      clear hI
      have hex : ((q : Int) < (n : Int) ∧ ¬ (q : Int) < 60) ∨ ¬ (q : Int) < (n : Int) := by omega
      clear hin
      obtain ⟨L, hL⟩ : ∃ L, spAll T = L := ⟨_, rfl⟩
      have hL' := Lib.hid hL
      have hLl := Lib.hid (show L.length ≤ 16 by have := spAll_len T; have := hI1.out.ok.len; rw [← hL]; omega)
      have hAll := hI1.out.all
      rw [hL] at hAll
      have hAll' := Lib.hid hAll
      have hok := Lib.hid hI1.out.ok
      have hnd := Lib.hid (show L.Nodup by rw [← hL]; exact all_nodup hI1.out.ok)
      clear hL hAll hI1
      rcases hex with ⟨hg, hg2⟩ | hg <;> (
        go_wp2_with fail
        refine (hAll'.out).mono ?_
        rintro e w2 ⟨g, cap, rfl, hr, hk, hgg⟩
        have hU1 := Lib.hid (hU'.out.same hk)
        have hgu := Lib.hid (show ¬ g = ub by have := lt_of_heap hU'.out.at_; omega)
        have hX := Lib.hid (show ∀ W, Keeps (· = ub) w2 W → SpRow W (some ⟨g, 0, none⟩) cap L from fun W hW => RecRow.keeps hr hW (fun g' hg' e => by cases hg'; exact hgu.out e))
        obtain ⟨nl, hnl⟩ : ∃ nl, L.length = nl := ⟨_, rfl⟩
        have hnl' := Lib.hid hnl
        rw [hnl] at hLl ⊢
        have hnl16 := hLl.out
        have x1 : wrap64 ((nl : Int) - 1) = (nl : Int) - 1 := by unfold wrap64; omega
        clear hr hk hgg hAll' hnl hLl hU'
        go_wp2_with fail
        clear x1
        go_loopw [14] (fun c wx => ∃ i : Nat, i ≤ nl ∧ c = .int .i64 ((i : Int) - 1) ∧ SpIn w wx ub z (keepOf (L.drop i) T) ∧ Keeps (· = ub) w2 wx) (fun c _ => (intOf c + 1).toNat)
        case atStart => exact ⟨nl, by omega, rfl, by rw [← hnl'.out, List.drop_length, keepOf_nil hok.out.len]; exact hU1.out, Keeps.refl _ _⟩
        case round =>
          obtain ⟨i, hi, rfl, hU2, hK⟩ := hrel
          have hK' := Lib.hid hK
          by_cases hlt : 0 < i
          · obtain ⟨j, rfl⟩ : ∃ j, i = j + 1 := ⟨i - 1, by omega⟩
            rw [show ((j + 1 : Nat) : Int) - 1 = (j : Int) by omega]
            obtain ⟨s, hs⟩ : ∃ s, L[j]? = some s := ⟨_, List.getElem?_eq_getElem (by rw [hnl'.out]; omega)⟩
            have hsm : s ∈ spAll T := by rw [hL'.out]; exact List.mem_of_getElem? hs
            have hdr : L.drop j = s :: L.drop (j + 1) := by
              obtain ⟨hj, e⟩ := List.getElem?_eq_some_iff.1 hs
              rw [List.drop_eq_getElem_cons hj, e]
            have hnm : s ∉ L.drop (j + 1) := by
              have := hnd.out.sublist (List.drop_sublist j L)
              rw [hdr] at this
              exact (List.nodup_cons.1 this).1
            obtain ⟨e1, e2, e3, e4⟩ := again_up hok.out hsm (fun x hx => by rw [hL'.out]; exact List.mem_of_mem_drop hx) hnm
            obtain ⟨_, i1, i2, _, hso⟩ := tat_mem hok.out hsm
            have hRec := Lib.hid (fun W => record_any hso i1 i2 (by omega) false W)
            have hro := Lib.hid (recOf_ok hok.out (show z ≤ 4096 by omega) hsm false)
            have hs' := Lib.hid hs
            have hdr' := Lib.hid hdr
            have hE3 := Lib.hid e3
            have hE4 := Lib.hid e4
            have hA1 := Lib.hid (show ∀ W, Keeps Nil wr W → Calls Try.prog 21 #[.pointer (some ⟨ub, 0, none⟩), recV (recOf s false)] W fun e w' => e = .returned (.int .i64 0) ∧ SpIn w w' ub z (keepOf (s :: L.drop (j + 1)) T) ∧ Keeps (· = ub) W w' from fun W hW => by
              have h := (hU2.same hW).apply hro.out
              rw [e1, e2] at h
              exact h)
            obtain ⟨c0, c1, c2⟩ := SpRow.cells (hX.out _ hK) hs
            have g0 : (0 : Int) ≤ (j : Int) := by omega
            have g1 : (j : Int) < (nl : Int) := by omega
            have x1 : wrap64 ((j : Int) - 1) = (j : Int) - 1 := by unfold wrap64; omega
            obtain ⟨u, v, y⟩ := s
            simp only [spV] at hRec
            clear e1 e2 e3 e4 hU2 hK hs hsm hdr hnm i1 i2 hso hlt
            go_wp2_with fail
            refine (hRec.out _).mono ?_
            rintro e w3 ⟨rfl, hk3⟩
            have hk3' := Lib.hid hk3
            clear hk3
            go_wp2_with fail
            refine (hA1.out _ hk3'.out).mono ?_
            rintro e w4 ⟨rfl, hU4, hk4⟩
            have hK4 := Lib.hid (hK'.out.trans ((hk3'.out.mono (fun _ h => h.elim)).trans hk4))
            have hU4' := Lib.hid hU4
            obtain ⟨d0, d1, d2⟩ := SpRow.cells (hX.out _ hK4.out) hs'.out
            clear hU4 hk4 c0 c1 c2 hA1 hk3'
            go_wp2_with fail
            refine (hRec.out _).mono ?_
            rintro e w5 ⟨rfl, hk5⟩
            have hk5' := Lib.hid hk5
            have hA2 := (hU4'.out.same hk5).apply hro.out
            rw [hE3.out, hE4.out] at hA2
            have hA2' := Lib.hid hA2
            clear hk5 hA2 d0 d1 d2
            go_wp2_with fail
            refine (hA2'.out).mono ?_
            rintro e w6 ⟨rfl, hU6, hk6⟩
            have hU6' := Lib.hid hU6
            have hK6 := Lib.hid (hK4.out.trans ((hk5'.out.mono (fun _ h => h.elim)).trans hk6))
            clear hU6 hk6 hA2'
            go_wp2_with fail
            go_roundw
            case rel => exact ⟨j, by omega, by go_num, by rw [hdr'.out]; exact hU6'.out, hK6.out⟩
            case measure => simp [intOf]
          · obtain rfl : i = 0 := by omega
            rw [show ((0 : Nat) : Int) - 1 = -1 by rfl]
            have hU3 : SpIn w wr ub z T := by rw [List.drop_zero, ← hL'.out, keepOf_all] at hU2; exact hU2
            have hAU := hU3.all
            rw [hL'.out] at hAU
            have hAU' := Lib.hid hAU
            have hU3' := Lib.hid hU3
            have hR0 := Lib.hid (hX.out _ hK)
            clear hU2 hU3 hK hAU hlt
            go_wp2_with fail
            refine (hAU'.out).mono ?_
            rintro e w3 ⟨g2, cap2, rfl, hr2, hk3, hg2'⟩
            have hU4 := Lib.hid (hU3'.out.same hk3)
            have hRow := rows23 hr2 (RecRow.keeps hR0.out hk3 (fun _ _ h => h)) (by rw [hnl'.out]; omega)
            rw [hnl'.out] at hRow
            have hRow' := Lib.hid hRow
            have hR1 := Lib.hid (RecRow.keeps hR0.out hk3 (fun _ _ h => h))
            clear hr2 hk3 hg2' hRow hAU'
            rw [hnl'.out]
            go_wp2_with fail
            refine (hRow'.out).mono ?_
            rintro e w5 ⟨rfl, hk5⟩
            have hU5 := Lib.hid (hU4.out.same hk5)
            have hR5 := Lib.hid (RecRow.keeps hR1.out hk5 (fun _ _ h => h))
            have hX5 := Lib.hid (show ∀ W, Keeps (· = ub) w5 W → SpRow W (some ⟨g, 0, none⟩) cap L from fun W hW => RecRow.keeps hR5.out hW (fun g' hg' e => by cases hg'; exact hgu.out e))
            clear hk5 hRow'
            go_wp2_with fail
            go_loopw [16] (fun c wx => ∃ i : Nat, i ≤ nl ∧ c = .int .i64 i ∧ SpIn w wx ub z (keepOf (L.drop i) T) ∧ Keeps (· = ub) w5 wx) (fun c _ => nl - (intOf c).toNat)
            case atStart => exact ⟨0, by omega, rfl, by rw [List.drop_zero, ← hL'.out, keepOf_all]; exact hU5.out, Keeps.refl _ _⟩
            case round =>
              obtain ⟨j, hj, rfl, hU2, hK⟩ := hrel
              have hK' := Lib.hid hK
              by_cases hlt : j < nl
              · obtain ⟨s, hs⟩ : ∃ s, L[j]? = some s := ⟨_, List.getElem?_eq_getElem (by rw [hnl'.out]; omega)⟩
                have hsm : s ∈ spAll T := by rw [hL'.out]; exact List.mem_of_getElem? hs
                have hdr : L.drop j = s :: L.drop (j + 1) := by
                  obtain ⟨hj, e⟩ := List.getElem?_eq_some_iff.1 hs
                  rw [List.drop_eq_getElem_cons hj, e]
                have hnm : s ∉ L.drop (j + 1) := by
                  have := hnd.out.sublist (List.drop_sublist j L)
                  rw [hdr] at this
                  exact (List.nodup_cons.1 this).1
                obtain ⟨e1, e2⟩ := again_down hok.out hsm hnm
                obtain ⟨_, i1, i2, _, hso⟩ := tat_mem hok.out hsm
                have hRec := Lib.hid (fun W => record_any hso i1 i2 (by omega) true W)
                have hro := Lib.hid (recOf_ok hok.out (show z ≤ 4096 by omega) hsm true)
                rw [hdr] at hU2
                have hA1 := Lib.hid (show ∀ W, Keeps Nil wr W → Calls Try.prog 21 #[.pointer (some ⟨ub, 0, none⟩), recV (recOf s true)] W fun e w' => e = .returned (.int .i64 0) ∧ SpIn w w' ub z (keepOf (L.drop (j + 1)) T) ∧ Keeps (· = ub) W w' from fun W hW => by
                  have h := (hU2.same hW).apply hro.out
                  rw [e1, e2] at h
                  exact h)
                obtain ⟨c0, c1, c2⟩ := SpRow.cells (hX5.out _ hK) hs
                have g0 : (0 : Int) ≤ (j : Int) := by omega
                have g1 : (j : Int) < (nl : Int) := by omega
                obtain ⟨u, v, y⟩ := s
                simp only [spV] at hRec
                clear e1 e2 hU2 hK hs hsm hdr hnm i1 i2 hso
                go_wp2_with fail
                refine (hRec.out _).mono ?_
                rintro e w6 ⟨rfl, hk6⟩
                have hk6' := Lib.hid hk6
                clear hk6
                go_wp2_with fail
                refine (hA1.out _ hk6'.out).mono ?_
                rintro e w7 ⟨rfl, hU7, hk7⟩
                have hK7 := Lib.hid (hK'.out.trans ((hk6'.out.mono (fun _ h => h.elim)).trans hk7))
                have hU7' := Lib.hid hU7
                clear hU7 hk7 c0 c1 c2 hA1 hk6'
                go_wp2_with fail
                go_roundw
                case rel => exact ⟨j + 1, by omega, by go_num, hU7'.out, hK7.out⟩
                case measure => simp [intOf]; omega
              · obtain rfl : j = nl := by omega
                rw [← hnl'.out, List.drop_length, keepOf_nil hok.out.len] at hU2
                have hAU := hU2.all
                rw [show spAll (List.replicate 16 sp0) = [] by decide] at hAU
                have hAU' := Lib.hid hAU
                have hU6 := Lib.hid hU2
                clear hU2 hK hAU hlt
                go_wp2_with fail
                refine (hAU'.out).mono ?_
                rintro e w6 ⟨g3, cap3, rfl, hr3, hk6, hg3⟩
                have hU7 := Lib.hid (hU6.out.same hk6)
                have hF := hU7.out.free
                rw [show spSum (List.replicate 16 sp0) = 0 by decide, Int.sub_zero] at hF
                have hF' := Lib.hid hF
                clear hr3 hk6 hg3 hF hAU'
                simp only [List.length_nil]
                go_wp2_with fail
                refine (hF'.out).mono ?_
                rintro e w8 ⟨rfl, hk8⟩
                have hk8' := Lib.hid hk8
                clear hk8
                go_wp2_with fail
                go_ret
                exact ⟨by simp, hU7.out.keep.trans hk8'.out⟩)
end Go.Proofs.Ytmdgbcbnciaikaa
