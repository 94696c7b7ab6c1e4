/- BufferNewer: the walk -/
import Derived.Test.YtcejapdjkkmkaaaK1
import Derived.Deep.DeepCutAuto
namespace Go.Proofs.Ytcejapdjkkmkaaa
open Go.RowKit

attribute [local go_sem ↓] Go.wp_at_zero Go.wp_at_succ

set_option maxHeartbeats 8000000 in
set_option maxRecDepth 100000 in
theorem newer_any (ax : Option Addr) (capx : Nat) (xs : List Int) (again : Int) (drop : Bool) (w : World) (h0 : -9223372036854775808 ≤ again) (h1 : again ≤ 9223372036854775807) (hx : IntsAt w ax xs) (hmx : xs.length ≤ maxLen) :
    Calls Try.prog 6 #[.slice ax xs.length capx, .int .i64 again, .bool drop] w fun e w' => e = .returned (.bool true) ∧ Keeps Nil w w' := by
  obtain ⟨i3, hi3, hz0, hz1, hz2⟩ := info_parts info3
  obtain ⟨a, ha⟩ : ∃ a, absI again = a := ⟨_, rfl⟩
  have ha0 : 0 ≤ a := by rw [← ha]; exact absI_nonneg _
  have hA := Lib.hid (fun W => abs_val again a W h0 h1 ha)
  have hmx2 : xs.length ≤ 9223372036854775807 := by unfold maxLen at hmx; omega
  have hx' := Lib.hid hx
  have hmk := @run_makeMap Try.prog
  clear ha h0 h1 hx hmx
  go_enter Try.func6, Try.ntmps6
  go_wp2_with fail
  refine (awake_any w).mono ?_
  rintro e w1 ⟨rfl, hk1⟩
  have hk1' := Lib.hid hk1
  clear hk1
  go_wp2_with fail
  refine (newX 200 w1 (by omega)).mono ?_
  rintro e w2 ⟨bb, O, rfl, hL, hK, hO⟩
  have hB0 := Lib.hid (show BufIn w w2 bb 200 [] O from ⟨hL, hk1'.out.trans hK, fun k hk => by have := hO k hk; have := hk1'.out.size; omega⟩)
  clear hL hK hO hk1'
  go_wp2_with fail
  obtain ⟨tb, htb⟩ : ∃ tb : Nat, tb = w2.heap.size := ⟨_, rfl⟩
  have hM0 := Lib.hid (show NewW w (w2.alloc (.map #[] 0)) bb tb 200 [] [] O none 0 from by
    have hk : Keeps Nil w2 (w2.alloc (.map #[] 0)) := (Keeps.refl Nil w2).alloc _
    exact ⟨⟨⟨hB0.out.x.nil hk, hB0.out.k.trans hk, hB0.out.o⟩, by simp, by rw [htb]; exact MapAt.made w2, rfl, by rw [htb]; exact hB0.out.k.size, fun ho => by have := hB0.out.x.lt ho; omega⟩, RowAt.nil _ _ _, fun g hg => (by cases hg), fun g hg => (by cases hg)⟩)
  rw [← htb]
  clear htb hB0
  go_loopw [10, 12, 13, 14] (fun v i y t wr => ∃ (k : Nat) (l : List It) (f : List (Int × Value)) (O : Nat → Prop) (ra : Option Addr) (rc : Nat), k ≤ 100 ∧ l.length ≤ k ∧ i = .int .i64 k ∧ v = .slice ra l.length rc ∧ NewW w wr bb tb 200 l f O ra rc) (fun _ i _ _ _ => 100 - (intOf i).toNat)
  case atStart => exact ⟨0, [], [], O, none, 0, by omega, by simp, rfl, rfl, hM0.out⟩
  case round =>
    obtain ⟨i, l, f, O2, ra, rc, hi, hli, rfl, rfl, hM⟩ := hrel
    by_cases hin : i < xs.length ∧ i < 100
    · obtain ⟨hi1, hi2⟩ := hin
      obtain ⟨b, off, rfl, cw⟩ := hx'.out i hi1
      have c0 := hM.m.b.k.cell cw (fun h => h)
      have cw' := Lib.hid cw
      have hM' := Lib.hid hM
      clear hM cw
      by_cases hth : gi xs i ∈ ikeys l
      · have hic := iput_in (most := 200) (r := ⟨gi xs i, 1, [1]⟩) hth
        have hlk : (iput 200 ⟨gi xs i, 1, [1]⟩ l).length = l.length := by rw [← ikeys_len, hic.2, ikeys_len]
        obtain ⟨v, hv⟩ : ∃ v, mget (gi xs i) f = some v := by
          cases hg : mget (gi xs i) f with
          | none => exact absurd (by rw [hM'.out.m.keys]; exact hth) (mget_none.1 hg)
          | some v => exact ⟨v, rfl⟩
        have hv' := Lib.hid hv
        have hic' := Lib.hid hic
        have hlk' := Lib.hid hlk
        have hth' := Lib.hid hth
        have hks := Lib.hid (show mkeys (mset (gi xs i) (.int .i64 1) f) = ikeys (iput 200 ⟨gi xs i, 1, [1]⟩ l) from by rw [hic.2, mkeys_set_in (by rw [hM'.out.m.keys]; exact hth)]; exact hM'.out.m.keys)
        clear hv hic hlk hth
        go_wp2_with (first | (at_lookup; refine wpList_look_in _ rfl _ _ 38 rfl 3 3 Try.underlying38 Try.underlying3 zeroV3 tb f rfl (by exact hM'.out.m.m) _ rfl v hv'.out ?_) | (at_mapUpdate; refine wpList_upd _ rfl _ _ _ 38 rfl 3 3 Try.underlying38 Try.underlying3 tb f rfl (by exact hM'.out.m.m) _ rfl (.int .i64 1) rfl ?_; intro w6 hm6 hk6 hz6; have hI6 := hM'.out.mid (Keeps.refl _ _) hk6; have c1 := hI6.k.cell cw'.out (fun h => h); have hI6' := Lib.hid hI6; have hm6' := Lib.hid hm6; have hk6' := Lib.hid hk6; clear hI6 hm6 hk6 hz6 c0))
        refine (put_lit hI6'.out.x (gi xs i) 1 (c := 0) (by omega) (by omega) hic'.out.1 rfl).mono ?_
        rintro e w7 ⟨rfl, hB⟩
        obtain ⟨O7, hM7⟩ := hM'.out.fin (Keeps.refl _ _) (ra5 := ra) (rc5 := rc) (by rw [hic'.out.2]; exact hM'.out.row) (fun g hg => .inl hg) hm6'.out hk6'.out ((Keeps.refl Nil w6).alloc _) (v := .int .i64 0) ⟨rfl, hB⟩ hks.out (by rw [hlk'.out]; omega)
        have hM7' := Lib.hid hM7
        clear hB hM7
        go_wp2_with fail
        go_roundw
        case rel => exact ⟨i + 1, _, _, O7, ra, rc, by omega, by rw [hlk'.out]; omega, by go_num, by rw [hlk'.out], hM7'.out⟩
        case measure => simp [intOf]; omega
      · have hl0 : (l.length : Int) < 200 := by omega
        have hic := iput_new (most := 200) (r := ⟨gi xs i, 1, [1]⟩) hth hl0
        have hlk : (iput 200 ⟨gi xs i, 1, [1]⟩ l).length = l.length + 1 := by rw [← ikeys_len, hic.2, List.length_append, ikeys_len]; rfl
        have hv' := Lib.hid (show mget (gi xs i) f = none from mget_none.2 (by rw [hM'.out.m.keys]; exact hth))
        have hic' := Lib.hid hic
        have hlk' := Lib.hid hlk
        have hks := Lib.hid (show mkeys (mset (gi xs i) (.int .i64 1) f) = ikeys (iput 200 ⟨gi xs i, 1, [1]⟩ l) from by rw [hic.2, mset_new (by rw [hM'.out.m.keys]; exact hth), ← hM'.out.m.keys]; simp [mkeys])
        have hrow := Lib.hid (show ∀ W, Keeps Nil wr W → RowAt W 3 1 ra l.length rc ((ikeys l).map (Value.int .i64)) from fun W hW => by have := RowAt.keeps hM'.out.row hW (fun _ _ h => h); rwa [ikeys_len] at this)
        have hb1 := Lib.hid (show l.length + 1 ≤ maxLen by unfold maxLen; omega)
        have hb2 := Lib.hid (show (l.length + 1) * 8 ≤ 140737488355328 by omega)
        clear hic hlk hth
        go_wp2_with (first | (at_lookup; refine wpList_look_out _ rfl _ _ 38 rfl 3 3 Try.underlying38 Try.underlying3 zeroV3 tb f rfl (by exact hM'.out.m.m) _ rfl hv'.out ?_) | (at_builtin; refine wpList_app _ rfl _ _ 22 rfl 3 i3 (.int .i64 0) 1 8 Try.underlying22 hi3 hz0 hz1 hz2 rfl (by decide) ra l.length rc _ rfl _ 1 1 [.int .i64 (gi xs i)] rfl ?_ (hrow.out _ ((Keeps.refl Nil wr).alloc _)) (src_one (cell_new1 _ _ _)) (fun h => by cases h) (by simp [Value.oneCell']) hb1.out hb2.out; intro a5 cap5 w5 hr5 hk5 hb5; have k5 := ((Keeps.refl (fun k => blk ra = some k) wr).alloc (.cells #[.int .i64 (gi xs i)] 3)).trans hk5; have c5 := (hM'.out.keep5 k5).cell cw'.out (fun h => h); have hm5 := Lib.hid (hM'.out.map5 k5); have k5' := Lib.hid k5; have hr5' := Lib.hid hr5; have hb5' := Lib.hid hb5; clear hr5 hb5 hk5 k5 c0) | (at_mapUpdate; refine wpList_upd _ rfl _ _ _ 38 rfl 3 3 Try.underlying38 Try.underlying3 tb f rfl (by exact hm5.out) _ rfl (.int .i64 1) rfl ?_; intro w6 hm6 hk6 hz6; have hI6 := hM'.out.mid k5'.out hk6; have c1 := hI6.k.cell cw'.out (fun h => h); have hI6' := Lib.hid hI6; have hm6' := Lib.hid hm6; have hk6' := Lib.hid hk6; clear hI6 hm6 hk6 hz6 c5))
        refine (put_lit hI6'.out.x (gi xs i) 1 (c := 0) (by omega) (by omega) hic'.out.1 rfl).mono ?_
        rintro e w7 ⟨rfl, hB⟩
        obtain ⟨O7, hM7⟩ := hM'.out.fin k5'.out (ra5 := a5) (rc5 := cap5) (by rw [hic'.out.2]; unfold KeyRow; simpa [ikeys_len] using hr5'.out) (fun g hg => hb5'.out.elim (fun e => .inl (e ▸ hg)) (fun e => .inr (by rw [e.1] at hg; cases hg; simp))) hm6'.out hk6'.out ((Keeps.refl Nil w6).alloc _) (v := .int .i64 0) ⟨rfl, hB⟩ hks.out (by rw [hlk'.out]; omega)
        have hM7' := Lib.hid hM7
        clear hB hM7
        go_wp2_with fail
        go_roundw
        case rel => exact ⟨i + 1, _, _, O7, a5, cap5, by omega, by rw [hlk'.out]; omega, by go_num, by rw [hlk'.out], hM7'.out⟩
        case measure => simp [intOf]; omega
    · have hcase : (i < xs.length ∧ ¬ i < 100) ∨ ¬ i < xs.length := by omega
      have hM' := Lib.hid hM
      clear hM hin
      by_cases hz : l = []
      · subst hz
        have hK := Lib.hid hM'.out.m.b.k
        rcases hcase with ⟨hi1, hi2⟩ | hi1
        all_goals
          go_wp2_with fail
          go_ret
          exact ⟨rfl, hK.out⟩
      · have hpos : 0 < l.length := List.length_pos_iff.2 hz
        have e1 : ((l.length : Int) == 0) = false := by simp; omega
        have e1' : (l.length == 0) = false := by simp; omega
        obtain ⟨q, hq, hql⟩ : ∃ q : Nat, a.tmod (l.length : Int) = q ∧ q < l.length := by
          refine ⟨(a % (l.length : Int)).toNat, ?_, ?_⟩
          · rw [Int.tmod_eq_emod_of_nonneg ha0]
            have := Int.emod_nonneg a (show (l.length : Int) ≠ 0 by omega)
            omega
          · have := Int.emod_lt_of_pos a (show (0 : Int) < l.length by omega)
            have := Int.emod_nonneg a (show (l.length : Int) ≠ 0 by omega)
            omega
        obtain ⟨b, off, hra, ck⟩ := hM'.out.row.ints q (by rw [ikeys_len]; exact hql)
        obtain ⟨key, hkey⟩ : ∃ key, gi (ikeys l) q = key := ⟨_, rfl⟩
        rw [hkey] at ck
        have hkey' := Lib.hid hkey
        subst hra
        have hz' := Lib.hid hz
        clear hz hkey
        rcases hcase with ⟨hi1, hi2⟩ | hi1
        all_goals
          go_upto_if 89 with (fail)
          refine (hA.out _).mono ?_
          rintro e wa ⟨rfl, rfl⟩
          go_upto_if 89 with (fail)
          go_cut [2, 10] (fun _ v wx => ∃ (ra' : Option Addr) (rc' : Nat) (l2 : List It) (O' : Nat → Prop), v = .slice ra' (iput 200 ⟨key, 2, []⟩ l2).length rc' ∧ l2.length ≤ 100 ∧ BufIn w wx bb 200 l2 O' ∧ KeyRow wx ra' rc' (ikeys (iput 200 ⟨key, 2, []⟩ l2)) ∧ ∀ g, blk ra' = some g → ¬ O' g)
          case first =>
            cases hdr : drop
            · go_wp2_with fail
              go_meet
              have hin := iput_in (most := 200) (r := ⟨key, 2, []⟩) (l := l) (by rw [← hkey'.out]; exact gi_mem (by rw [ikeys_len]; exact hql))
              exact ⟨_, rc, l, O2, by rw [show (iput 200 ⟨key, 2, []⟩ l).length = l.length by rw [← ikeys_len, hin.2, ikeys_len]], by omega, hM'.out.m.b, by rw [hin.2]; exact hM'.out.row, fun g hg => (hM'.out.rno g hg).1⟩
            · have hin0 : key ∈ ikeys l := by rw [← hkey'.out]; exact gi_mem (by rw [ikeys_len]; exact hql)
              have hD := Lib.hid (by have := dropX hM'.out.m.b.x key (by omega); rw [ihas_in hin0] at this; exact this)
              have hdk := Lib.hid (idel_keys hM'.out.m.b.x.nodup (show q < (ikeys l).length by rw [ikeys_len]; exact hql) hkey'.out)
              go_wp2_with fail
              refine (hD.out).mono ?_
              rintro e wd ⟨rfl, hBd⟩
              obtain ⟨-, Od, hId, hKd, -⟩ := hM'.out.m.b.out (Keeps.refl Nil _) (v := .bool true) (e := .returned (.bool true)) ⟨rfl, hBd⟩
              have hId' := Lib.hid hId
              have hRd := Lib.hid (RowAt.keeps hM'.out.row hKd (fun g hg => (hM'.out.rno g hg).1))
              clear hBd hId hKd hD
              go_wp2_with fail
              have hlq : l.length ≤ 100 := by omega
              go_loopw [17, 18] (fun v c wx => ∃ (p : Nat) (a' : Option Addr) (c' m : Nat), p ≤ l.length ∧ c = .int .i64 p ∧ v = .slice a' m c' ∧ (((ikeys l).take p).eraseIdx q).length = m ∧ RowAt wx 3 1 a' m c' ((((ikeys l).take p).eraseIdx q).map (Value.int .i64)) ∧ Keeps Nil wd wx ∧ ∀ g, blk a' = some g → wd.heap.size ≤ g) (fun _ c _ => l.length - (intOf c).toNat)
              case atStart => exact ⟨0, none, 0, 0, Nat.zero_le _, rfl, rfl, by simp, by simpa using RowAt.nil wd 3 1, Keeps.refl _ _, fun g hg => by cases hg⟩
              case round =>
                obtain ⟨p, a', c', m, hp, rfl, rfl, hm, hr, hk, hg⟩ := hrel
                have hm1 : m ≤ p := by rw [← hm]; exact Nat.le_trans (List.length_eraseIdx_le _ _) (by simp; omega)
                have hb1 := Lib.hid (show m + 1 ≤ maxLen by unfold maxLen; omega)
                have hb2 := Lib.hid (show (m + 1) * 8 ≤ 140737488355328 by omega)
                have hm' := Lib.hid hm
                have hr' := Lib.hid hr
                have hk' := Lib.hid hk
                have hg' := Lib.hid hg
                by_cases hlt : p < l.length
                · obtain ⟨b2, off2, hb2, d2⟩ := (IntsAt.keeps (KeyRow.ints hRd.out) hk (fun _ _ _ h => h)) p (by rw [ikeys_len]; exact hlt)
                  cases hb2
                  clear hm hr hk hg
                  by_cases hpq : p = q
                  · have e7 : (p == q) = true := by simpa using hpq
                    have e8 : (p != q) = false := by simpa using hpq
                    have hsk := Lib.hid (show ((ikeys l).take (p + 1)).eraseIdx q = ((ikeys l).take p).eraseIdx q by rw [hpq]; exact skip_same (by rw [ikeys_len]; exact hql))
                    clear hpq
                    go_wp2_with fail
                    go_roundw
                    case rel => exact ⟨p + 1, a', c', m, by omega, by go_num, rfl, by rw [hsk.out]; exact hm'.out, by rw [hsk.out]; exact hr'.out, hk'.out, hg'.out⟩
                    case measure => simp [intOf]; omega
                  · have e7 : (p == q) = false := by simpa using hpq
                    have e8 : (p != q) = true := by simpa using hpq
                    have hsk := Lib.hid (skip_more (K := ikeys l) (p := p) (q := q) (by rw [ikeys_len]; exact hlt) hpq)
                    clear hpq
                    go_wp2_with (at_builtin; refine wpList_app _ rfl _ _ 22 rfl 3 i3 (.int .i64 0) 1 8 Try.underlying22 hi3 hz0 hz1 hz2 rfl (by decide) a' m c' _ rfl _ 1 1 [.int .i64 (gi (ikeys l) p)] rfl ?_ (hr'.out.keeps ((Keeps.refl Nil _).alloc _) (fun _ _ h => h)) (src_one (cell_new1 _ _ _)) (fun h => by cases h) (by simp [Value.oneCell']) hb1.out hb2.out; intro a5 cap5 w5 hr5 hk5 hb5; have hr5' := Lib.hid hr5; have hk5' := Lib.hid hk5; have hb5' := Lib.hid hb5; clear hr5 hk5 hb5)
                    go_roundw
                    case rel =>
                      have kx : Keeps Nil wd w5 := (hk'.out.alloc _).trans' hk5'.out (fun j hj => .inr (hg'.out j hj))
                      exact ⟨p + 1, a5, cap5, m + 1, by omega, by go_num, rfl, by rw [hsk.out, List.length_append, hm'.out]; rfl, by rw [hsk.out, List.map_append]; exact hr5'.out, kx, fun g hg => hb5'.out.elim (fun e => hg'.out g (e ▸ hg)) (fun e => by rw [e.1] at hg; cases hg; exact (hk'.out.alloc _).size)⟩
                    case measure => simp [intOf]; omega
                · obtain rfl : p = l.length := by omega
                  have hkk := hdk.out
                  rw [if_pos (by omega)] at hkk
                  have hall : ((ikeys l).take l.length).eraseIdx q = (ikeys l).eraseIdx q := by rw [List.take_of_length_le (by rw [ikeys_len]; exact Nat.le_refl _)]
                  rw [hall] at hm hr
                  have hkk' := Lib.hid hkk
                  have hm2 := Lib.hid hm
                  have hr2 := Lib.hid hr
                  clear hm hr hk hg hkk
                  go_wp2_with (at_builtin; refine wpList_app _ rfl _ _ 22 rfl 3 i3 (.int .i64 0) 1 8 Try.underlying22 hi3 hz0 hz1 hz2 rfl (by decide) a' m c' _ rfl _ 1 1 [.int .i64 key] rfl ?_ (hr2.out.keeps ((Keeps.refl Nil _).alloc _) (fun _ _ h => h)) (src_one (cell_new1 _ _ _)) (fun h => by cases h) (by simp [Value.oneCell']) hb1.out hb2.out; intro a5 cap5 w5 hr5 hk5 hb5; have hr5' := Lib.hid hr5; have hk5' := Lib.hid hk5; have hb5' := Lib.hid hb5; clear hr5 hk5 hb5)
                  go_meet
                  have kx : Keeps Nil wd w5 := (hk'.out.alloc _).trans' hk5'.out (fun j hj => .inr (hg'.out j hj))
                  have hlen3 : (iput 200 ⟨key, 2, []⟩ (idel key l)).length = m + 1 := by rw [← ikeys_len, hkk'.out, List.length_append, hm2.out]; rfl
                  have hnew : ∀ g, blk a5 = some g → wd.heap.size ≤ g := fun g hg => hb5'.out.elim (fun e => hg'.out g (e ▸ hg)) (fun e => by rw [e.1] at hg; cases hg; exact (hk'.out.alloc _).size)
                  exact ⟨a5, cap5, idel key l, Od, by rw [hlen3], by have := idel_len key l; omega, ⟨hId'.out.x.nil kx, hId'.out.k.trans kx, hId'.out.o⟩, by unfold KeyRow; rw [hkk'.out, List.length_append, hm2.out, List.map_append]; exact hr5'.out, fun g hg ho => by have := hnew g hg; have := hId'.out.x.lt ho; omega⟩
          case rest =>
            obtain ⟨ra', rc', l2, O', rfl, hl2, hB, hR, hN⟩ := hcut
            have hT := Lib.hid (trimX hB.x key (by omega) (by omega))
            have hB' := Lib.hid hB
            have hR' := Lib.hid hR
            have hN' := Lib.hid hN
            clear hB hR hN
            go_wp2_with fail
            refine (hT.out).mono ?_
            rintro e wt ⟨rfl, hBt⟩
            obtain ⟨-, Ot, hIt, hKt, -⟩ := hB'.out.out (Keeps.refl Nil _) (v := .int .i64 (icode 200 key l2)) (e := .returned (.int .i64 (icode 200 key l2))) ⟨rfl, hBt⟩
            have hRt := Lib.hid (RowAt.keeps hR'.out hKt hN'.out)
            have hl3 := Lib.hid (show (iput 200 ⟨key, 2, []⟩ l2).length ≤ 101 from iput_len (by omega))
            have hKe := Lib.hid (keysX hIt.x (by have := hl3.out; omega))
            have hIt' := Lib.hid hIt
            clear hBt hIt hKt hT
            go_wp2_with fail
            refine (hKe.out).mono ?_
            rintro e wk ⟨ak, capk, rfl, hrk, hkk, hgk⟩
            have hrk' := Lib.hid hrk
            have hkk' := Lib.hid hkk
            have hRk := Lib.hid (RowAt.keeps hRt.out hkk (fun _ _ h => h))
            have hG := Lib.hid (show ∀ W, Keeps Nil wk W → Calls Try.prog 15 #[.pointer (some ⟨bb, 0, none⟩), .int .i64 key] W (GetOut W 2 []) from fun W hW => by have := getX (hIt'.out.x.nil (hkk.trans hW)) key; rw [ist_put (by omega), idata_put (by omega)] at this; exact this)
            have hKw := Lib.hid (hIt'.out.k.trans hkk)
            have e3 : ((iput 200 ⟨key, 2, []⟩ l2).length == (iput 200 ⟨key, 2, []⟩ l2).length) = true := by simp
            obtain ⟨n3, hn3⟩ : ∃ n3, (iput 200 ⟨key, 2, []⟩ l2).length = n3 := ⟨_, rfl⟩
            rw [hn3] at e3 ⊢
            have hn3' := Lib.hid hn3
            clear hrk hkk hgk hn3
            go_wp2_with fail
            have hn3l := hl3.out
            rw [hn3'.out] at hn3l
            go_loopw [20] (fun c wx => ∃ p : Nat, p ≤ n3 ∧ c = .int .i64 p ∧ Keeps Nil wk wx) (fun c _ => n3 - (intOf c).toNat)
            case atStart => exact ⟨0, Nat.zero_le _, rfl, Keeps.refl _ _⟩
            case round =>
              obtain ⟨p, hp, rfl, hkx⟩ := hrel
              have hkx' := Lib.hid hkx
              by_cases hlt : p < n3
              · obtain ⟨b1, off1, rfl, d1⟩ := (hrk'.out.ints.keeps hkx (fun _ _ _ h => h)) p (by rw [ikeys_len, hn3'.out]; exact hlt)
                obtain ⟨b2, off2, rfl, d2⟩ := (IntsAt.keeps (KeyRow.ints hRk.out) hkx (fun _ _ _ h => h)) p (by rw [ikeys_len, hn3'.out]; exact hlt)
                have e4 : (gi (ikeys (iput 200 ⟨key, 2, []⟩ l2)) p == gi (ikeys (iput 200 ⟨key, 2, []⟩ l2)) p) = true := by simp
                have e5 : (gi (ikeys (iput 200 ⟨key, 2, []⟩ l2)) p != gi (ikeys (iput 200 ⟨key, 2, []⟩ l2)) p) = false := by simp
                clear hkx
                go_wp2_with fail
                go_quiet (fail)
                go_wp2_with fail
                go_roundw
                case rel => exact ⟨p + 1, by omega, by go_num, hkx'.out.drewN _⟩
                case measure => simp [intOf]; omega
              · clear hkx
                go_wp2_with fail
                refine (hG.out _ hkx'.out).mono ?_
                rintro e wg ⟨g, rfl, -, -, hkg⟩
                have hkg' := Lib.hid hkg
                clear hkg
                go_wp2_with fail
                go_ret
                exact ⟨rfl, (hKw.out.trans hkx'.out).trans hkg'.out⟩
end Go.Proofs.Ytcejapdjkkmkaaa
