/- SpaceApart: the walk -/
import Derived.Test.YtmdgbcbnciaikaaJ
namespace Go.Proofs.Ytmdgbcbnciaikaa
open Go.RowKit

attribute [local go_sem ↓] Go.wp_at_zero Go.wp_at_succ

set_option maxHeartbeats 8000000 in
set_option maxRecDepth 100000 in
theorem apart_any (keys : Int) (ax ay : Option Addr) (capx capy : Nat) (xs ys : List Int) (w : World) (h0 : -9223372036854775808 ≤ keys) (h1 : keys ≤ 9223372036854775807)
    (hx : IntsAt w ax xs) (hxr : ∀ j, j < xs.length → -9223372036854775808 ≤ gi xs j ∧ gi xs j ≤ 9223372036854775807) (hmx : xs.length ≤ maxLen)
    (hy : IntsAt w ay ys) (hyr : ∀ j, j < ys.length → -9223372036854775808 ≤ gi ys j ∧ gi ys j ≤ 9223372036854775807) (hmy : ys.length ≤ maxLen) :
    Calls Try.prog 3 #[.int .i64 keys, .slice ax xs.length capx, .slice ay ys.length capy] w fun e w' => e = .returned (.bool true) ∧ Keeps Nil w w' := by
  have hmk := @run_makeMap Try.prog
  obtain ⟨a, ha⟩ : ∃ a, absI keys = a := ⟨_, rfl⟩
  have ha0 : 0 ≤ a := by rw [← ha]; exact absI_nonneg _
  have hA := Lib.hid (fun W => abs_val keys a W h0 h1 ha)
  have ham : 0 ≤ a % 300 := by omega
  have ham2 : a % 300 ≤ 299 := by omega
  have hmx2 : xs.length ≤ 9223372036854775807 := by unfold maxLen at hmx; omega
  have hmy2 : ys.length ≤ 9223372036854775807 := by unfold maxLen at hmy; omega
  have hx' := Lib.hid hx
  have hy' := Lib.hid hy
  have hxr' := Lib.hid hxr
  have hyr' := Lib.hid hyr
  obtain ⟨n, hn⟩ : ∃ n, xs.length = n := ⟨_, rfl⟩
  obtain ⟨m, hm⟩ : ∃ m, ys.length = m := ⟨_, rfl⟩
  have hn' := Lib.hid hn
  have hm' := Lib.hid hm
  rw [hn] at hmx2 ⊢
  rw [hm] at hmy2 ⊢
  have hAw := Lib.hid (awake_any w)
  clear hx hy hxr hyr hmx hmy ha hn hm
  go_enter Try.func3, Try.ntmps3
  go_wp2_with fail
  refine (hAw.out).mono ?_
  rintro e w1 ⟨rfl, k1⟩
  have k1' := Lib.hid k1
  clear k1 hAw
  go_wp2_with fail
  refine (hA.out _).mono ?_
  rintro e w2 ⟨rfl, rfl⟩
  obtain ⟨z, hz⟩ : ∃ z, 1 + a % 300 = z := ⟨_, rfl⟩
  have hz1 : 1 ≤ z := by omega
  have hz2 : z ≤ 300 := by omega
  have hNew := Lib.hid (new_in k1'.out hz1 (by omega))
  go_wp2_with fail
  clear hz hA ham ham2 ha0
  refine (hNew.out).mono ?_
  rintro e w2 ⟨rfl, hI, hk⟩
  obtain ⟨tb, htb⟩ : ∃ tb, w1.heap.size = tb := ⟨_, rfl⟩
  rw [htb] at hI ⊢
  have hI0 := Lib.hid hI
  clear hI hk hNew htb
  go_wp2_with fail
  go_loopw [10] (fun c wx => ∃ (q : Nat) (T : List Spc), q ≤ n ∧ q ≤ 60 ∧ c = .int .i64 q ∧ SpIn w wx tb z T) (fun c _ => n - (intOf c).toNat)
  case atStart => exact ⟨0, _, by omega, by omega, rfl, hI0.out⟩
  case round =>
    obtain ⟨q, T, hq, hq60, rfl, hI⟩ := hrel
    by_cases hin : q < n ∧ q < 60
    · obtain ⟨hi1, hi2⟩ := hin
      obtain ⟨xb, xo, rfl, hc0⟩ := (hx'.out.keeps hI.keep (fun _ _ _ h => h)) q (by rw [hn'.out]; exact hi1)
      have hr := hxr'.out q (by rw [hn'.out]; exact hi1)
      obtain ⟨b, hb⟩ : ∃ b, absI (gi xs q) = b := ⟨_, rfl⟩
      have hb0 : 0 ≤ b := by rw [← hb]; exact absI_nonneg _
      have hAb := Lib.hid (fun W => abs_val (gi xs q) b W hr.1 hr.2 hb)
      have hb1 : 0 ≤ b % 40 := by omega
      have hb2 : b % 40 ≤ 39 := by omega
      have hI1 := Lib.hid hI
      have g0 : (0 : Int) ≤ (q : Int) := by omega
      have g1 : (q : Int) < (n : Int) := by omega
      have g2 : (q : Int) < 60 := by omega
      clear hI hb hr
      go_wp2_with fail
      refine (hAb.out _).mono ?_
      rintro e w2 ⟨rfl, rfl⟩
      go_wp2_with fail
      refine (hI1.out.create' (by omega)).mono ?_
      rintro e w3 ⟨v3, T3, rfl, hI, hk⟩
      have hI3 := Lib.hid hI
      clear hk hI1 hAb hc0 hb0 hb1 hb2
      by_cases hj : q < m
      · obtain ⟨yb, yo, rfl, hc1⟩ := (hy'.out.keeps hI.keep (fun _ _ _ h => h)) q (by rw [hm'.out]; exact hj)
        have hr := hyr'.out q (by rw [hm'.out]; exact hj)
        obtain ⟨c, hc⟩ : ∃ c, absI (gi ys q) = c := ⟨_, rfl⟩
        have hc0 : 0 ≤ c := by rw [← hc]; exact absI_nonneg _
        have hAc := Lib.hid (fun W => abs_val (gi ys q) c W hr.1 hr.2 hc)
        have g3 : (q : Int) < (m : Int) := by omega
        clear hI hc hr
        by_cases h3 : c % 3 = 0
        · have h3' : (c % 3 == 0) = true := by simpa using h3
          have hq0 : 0 ≤ c / 3 := by omega
          have hq1 : 0 ≤ c / 3 % 16 := by omega
          have hq2 : c / 3 % 16 ≤ 15 := by omega
          clear h3
          go_wp2_with fail
          refine (hAc.out _).mono ?_
          rintro e w4 ⟨rfl, rfl⟩
          go_wp2_with fail
          refine (hAc.out _).mono ?_
          rintro e w4 ⟨rfl, rfl⟩
          go_wp2_with fail
          refine (hI3.out.delete' _).mono ?_
          rintro e w5 ⟨v5, T5, rfl, hI, hk⟩
          have hI5 := Lib.hid hI
          clear hI hk hq0 hq1 hq2 hc0 hc1
          go_wp2_with fail
          go_roundw
          case rel => exact ⟨q + 1, _, by omega, by omega, by go_num, hI5.out⟩
          case measure => simp [intOf]; omega
        · have h3' : (c % 3 == 0) = false := by simpa using h3
          clear h3
          go_wp2_with fail
          refine (hAc.out _).mono ?_
          rintro e w4 ⟨rfl, rfl⟩
          go_wp2_with fail
          go_roundw
          case rel => exact ⟨q + 1, _, by omega, by omega, by go_num, hI3.out⟩
          case measure => simp [intOf]; omega
      · have g3 : ¬ (q : Int) < (m : Int) := by omega
        clear hI
        go_wp2_with fail
        go_roundw
        case rel => exact ⟨q + 1, _, by omega, by omega, by go_num, hI3.out⟩
        case measure => simp [intOf]; omega
    · have hI1 := Lib.hid hI
      clear hI
      have hex : ((q : Int) < (n : Int) ∧ ¬ (q : Int) < 60) ∨ ¬ (q : Int) < (n : Int) := by omega
      have htl := lt_of_heap hI1.out.at_
      have hmw : w.heap.size ≤ wr.heap.size := hI1.out.keep.size
      clear hin
      obtain ⟨mb, hmb⟩ : ∃ mb, wr.heap.size = mb := ⟨_, rfl⟩
      have hM0 := Lib.hid (show MapAt (wr.alloc (.map #[] 0)) mb [] by rw [← hmb]; exact MapAt.made wr)
      have hI2 := Lib.hid (hI1.out.same ((Keeps.refl Nil wr).alloc (.map #[] 0)))
      have hsz2 := Lib.hid (show (wr.alloc (.map #[] 0)).heap.size = mb + 1 by simp [hmb])
      obtain ⟨L, hL⟩ : ∃ L, spAll T = L := ⟨_, rfl⟩
      have hL' := Lib.hid hL
      have hLl := Lib.hid (show L.length ≤ 16 by have := spAll_len T; have := hI1.out.ok.len; rw [← hL]; omega)
      have hAll := hI2.out.all
      rw [hL] at hAll
      have hAll' := Lib.hid hAll
      have hmw' := Lib.hid (show w.heap.size ≤ mb by rw [← hmb]; exact hmw)
      have htm' := Lib.hid (show ¬ tb = mb by rw [← hmb]; omega)
      have hmb' := Lib.hid hmb
      clear hL hAll hI1 htl hmw hmb
      rcases hex with ⟨hg, hg2⟩ | hg <;> (
        go_wp2_with fail
        refine (hAll'.out).mono ?_
        rintro e w2 ⟨g, cap, rfl, hr, hk, hgg⟩
        rw [hmb'.out]
        have hI3 := Lib.hid (hI2.out.same hk)
        have hM3 := Lib.hid (hM0.out.keeps hk (fun h => h))
        have hr3 := Lib.hid hr
        have hgm := Lib.hid (show ¬ g = mb by have := hsz2.out; omega)
        have hX := Lib.hid (show ∀ W, Keeps (· = mb) w2 W → SpRow W (some ⟨g, 0, none⟩) cap L from fun W hW => RecRow.keeps hr hW (fun g' hg' e => by cases hg'; exact hgm.out e))
        have hIX := Lib.hid (show ∀ W, Keeps (· = mb) w2 W → SpIn w W tb z T from fun W hW => hI3.out.other hW (fun e => htm'.out e) (fun k hk => by rw [hk]; exact hmw'.out))
        obtain ⟨nl, hnl⟩ : ∃ nl, L.length = nl := ⟨_, rfl⟩
        have hnl' := Lib.hid hnl
        rw [hnl] at hLl ⊢
        have hnl16 := hLl.out
        clear hr hk hgg hAll' hnl hM0 hI2 hsz2 hLl
        go_wp2_with fail
        go_loopw [13, 14, 15, 16, 17, 18, 19, 20] (fun c _ _ _ _ _ _ _ wx => ∃ (i : Nat) (f : List (Int × Value)), i ≤ nl ∧ c = .int .i64 i ∧ Own w2 wx mb f (keysOf (L.take i))) (fun c _ _ _ _ _ _ _ _ => nl - (intOf c).toNat)
        case atStart => exact ⟨0, [], by omega, rfl, hM3.out, rfl, Keeps.refl _ _⟩
        case round =>
          obtain ⟨i, f, hi, rfl, hO⟩ := hrel
          by_cases hlt : i < nl
          · obtain ⟨s, hs⟩ : ∃ s, L[i]? = some s := ⟨_, List.getElem?_eq_getElem (by rw [hnl'.out]; exact hlt)⟩
            have hsm : s ∈ spAll T := by rw [hL'.out]; exact List.mem_of_getElem? hs
            have hok := hI3.out.ok
            obtain ⟨_, _, _, _, hso⟩ := tat_mem hok hsm
            have s1 := hso.size
            have s2 := hso.base
            have s3 := hso.top
            have hs' := Lib.hid hs
            have hkey := Lib.hid (fun (k : Nat) (hk : (k : Int) < s.size) => key_at hok hsm hk)
            have hpast := Lib.hid (key_past hok hsm)
            have hnew := Lib.hid (fun (k : Nat) (hk : (k : Int) < s.size) => by have := key_new hok (i := i) (k := k) (by rw [hL'.out]; exact hs) hk; rw [hL'.out] at this; exact this)
            have hO' := Lib.hid hO
            have g0 : (0 : Int) ≤ (i : Int) := by omega
            have g1 : (i : Int) < (nl : Int) := by omega
            obtain ⟨sn, hsn⟩ : ∃ sn : Nat, s.size = (sn : Int) := ⟨s.size.toNat, by omega⟩
            have hsn' := Lib.hid hsn
            have sn1 : 1 ≤ sn := by omega
            have sn2 : sn ≤ 300 := by omega
            have sb1 : s.base + (sn : Int) ≤ z := by omega
            clear hs hsm hso hok s1 s3 hO hsn
            go_wp2_with fail
            go_loopw [14, 15, 16, 17, 18] (fun c _ _ _ _ wx => ∃ (k : Nat) (f : List (Int × Value)), k ≤ sn ∧ c = .int .i64 k ∧ Own w2 wx mb f (keysOf (L.take i) ++ keysUp s k)) (fun c _ _ _ _ _ => sn - (intOf c).toNat)
            case atStart => exact ⟨0, f, by omega, rfl, by rw [keysUp_zero, List.append_nil]; exact hO'.out⟩
            case round =>
              obtain ⟨k, f2, hk, rfl, hO2⟩ := hrel
              obtain ⟨c0, c1, c2⟩ := SpRow.cells (hX.out _ hO2.keep) hs'.out
              rw [hsn'.out] at c2
              have hI4 := hIX.out _ hO2.keep
              have hO2' := Lib.hid hO2
              have q0 : (0 : Int) ≤ (k : Int) := by omega
              by_cases hlk : k < sn
              · have hlk' : (k : Int) < s.size := by rw [hsn'.out]; omega
                obtain ⟨e1, e2⟩ := hkey.out k hlk'
                have hK := hI4.key s.id (k : Int) 1 q0 (by omega) (by decide) (by decide)
                rw [e1, e2] at hK
                have hK' := Lib.hid hK
                have hnw := Lib.hid (hnew.out k hlk')
                have x1 : IntKind.u64.wrap (k : Int) = (k : Int) := by simp [IntKind.wrap, IntKind.signed, IntKind.bits]; omega
                have y1 : (k : Int) < (sn : Int) := by omega
                have y2 : (k : Int) < 400 := by omega
                have y3 : ¬ s.base + (k : Int) < 0 := by omega
                have y4 : ¬ z ≤ s.base + (k : Int) := by omega
                clear hO2 hI4 hK e1 e2 hlk'
                go_wp2_with fail
                refine (hK'.out).mono ?_
                rintro e w4 ⟨rfl, hk4⟩
                have hO4 := Lib.hid (hO2'.out.same hk4)
                obtain ⟨d0, d1, d2⟩ := SpRow.cells (hX.out _ hO4.out.keep) hs'.out
                clear hk4 c0 c1 c2 hK' hO2' x1
                go_wp2_with (first | (at_lookup; refine wpList_look_out _ rfl _ _ 33 rfl 3 3 Try.underlying33 Try.underlying3 (fun W => Try.zeroValue3 W) mb f2 rfl (by exact hO4.out.at_) (s.base + (k : Int)) rfl (by exact hO4.out.none hnw.out) ?_) | (at_mapUpdate; refine wpList_upd _ rfl _ _ _ 33 rfl 3 3 Try.underlying33 Try.underlying3 mb f2 rfl (by exact hO4.out.at_) (s.base + (k : Int)) rfl (.int .i64 s.id) rfl ?_; intro w8 hm8 hk8 hz8))
                have hO8 := Lib.hid (hO4.out.step hnw.out hm8 hk8)
                clear hm8 hk8 hz8
                go_roundw
                case rel => exact ⟨k + 1, _, by omega, by go_num, by rw [keysUp_succ, ← List.append_assoc]; exact hO8.out⟩
                case measure => simp [intOf]; omega
              · have hkn : k = sn := by omega
                have hK := hI4.same ((Keeps.refl Nil wr).drew)
                have hK2 := hK.key s.id (sn : Int) 1 (by omega) (by omega) (by decide) (by decide)
                rw [show keyE (tat T s.id) (sn : Int) 1 = 141 by rw [← hsn'.out]; exact hpast.out] at hK2
                obtain ⟨kv, hkv⟩ : ∃ kv, keyV (tat T s.id) (sn : Int) 1 = kv := ⟨_, rfl⟩
                rw [hkv] at hK2
                have hK' := Lib.hid hK2
                have x1 : IntKind.u64.wrap (sn : Int) = (sn : Int) := by simp [IntKind.wrap, IntKind.signed, IntKind.bits]; omega
                have hLC := Lib.hid (show ∀ W, Keeps Nil wr W → W.cell? ⟨g, i * 3, none⟩ = some (.int .i64 s.id) ∧ W.cell? ⟨g, i * 3 + 2, none⟩ = some (.int .i64 sn) from fun W hW => ⟨hW.cell c0 (fun h => h), hW.cell c2 (fun h => h)⟩)
                subst hkn
                clear hO2 hI4 hK hK2 hkv hlk c0 c1
                go_wp2_with fail
                go_region_held3 (fun W => W.cell? ⟨g, i * 3, none⟩ = some (.int .i64 s.id) ∧ W.cell? ⟨g, i * 3 + 2, none⟩ = some (.int .i64 k)) ((refine hLC.out _ ?_; first | exact (Keeps.refl Nil wr).drew | exact hk5'.out)) ((go_at_call 13; refine (hK'.out).mono ?_; rintro e w5 ⟨rfl, hk5⟩; have hk5' := Lib.hid ((Keeps.refl Nil wr).drew.trans hk5); clear hk5))
                go_wp2_with fail
                go_roundw
                case rel => exact ⟨i + 1, f2, by omega, by go_num, by rw [keysOf_take hs'.out, show s.size.toNat = k by rw [hsn'.out]; rfl]; exact hO2'.out.same hk5'.out⟩
                case measure => simp [intOf]; omega
          · have hin2 : i = nl := by omega
            have hI4 := hIX.out _ hO.keep
            have hF := hI4.free
            obtain ⟨fr, hfr⟩ : ∃ fr, z - spSum T = fr := ⟨_, rfl⟩
            rw [hfr] at hF
            have hF' := Lib.hid hF
            obtain ⟨lf, hlf⟩ : ∃ lf, f.length = lf := ⟨_, rfl⟩
            have hlf' := Lib.hid hlf
            have x1 : wrap64 (z - fr) = (lf : Int) := by
              have h1 := owners hI4.ok
              rw [hL'.out] at h1
              have h2 := hO.len
              rw [hin2, ← hnl'.out, List.take_length] at h2
              have h3 : (lf : Int) = spSum T := by rw [← hlf, h2, h1]
              have h4 := spSum_bound hI4.ok hI4.k1 16 (by rw [hI4.ok.len]; omega)
              rw [← hI4.ok.len, List.take_length] at h4
              have h6 := hI4.ok.len
              have h5 : z - fr = (lf : Int) := by omega
              rw [h5]; unfold wrap64; omega
            have hO' := Lib.hid hO
            have hI4' := Lib.hid hI4
            have y1 : (nl : Int) ≤ 16 := by omega
            subst hin2
            clear hO hI4 hF hfr hlf
            go_wp2_with (at_len; refine wpList_mlen _ rfl _ 33 rfl 3 3 Try.underlying33 mb f rfl (by exact hO'.out.at_) ?_; rw [hlf'.out])
            refine (hF'.out).mono ?_
            rintro e w9 ⟨rfl, hk9⟩
            have hk9' := Lib.hid hk9
            clear hk9
            go_wp2_with fail
            go_ret
            exact ⟨rfl, hI4'.out.keep.trans hk9'.out⟩)
end Go.Proofs.Ytmdgbcbnciaikaa
