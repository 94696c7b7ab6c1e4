/- stripe: leaves that may be, of raw ones: the walk, and that all lies in new blocks -/
import Derived.Test.YtdgcbjkopmlegaaN
namespace Go.Proofs.Ytdgcbjkopmlegaa
open Go.RowKit

attribute [local go_sem ↓] Go.wp_at_zero Go.wp_at_succ

/-- what 'right' answers, all in new blocks -/
def RightNew (w : World) (S n : Nat) (e : Ending) (w' : World) : Prop := ∃ L a' cap' Z, e = .returned (.slice a' L.length cap') ∧ OutL w' a' cap' L Z ∧ (∀ h ∈ L, Right S n h.x) ∧ L.length ≤ 12 ∧ Keeps Nil w w' ∧ (∀ k, Z k → w.heap.size ≤ k) ∧ ∀ g, blk a' = some g → w.heap.size ≤ g

set_option maxHeartbeats 16000000 in
set_option maxRecDepth 100000 in
theorem right13n {w : World} (S n : Nat) (T : Int) {a : Option Addr} {cap : Nat} {raw : List Lf} (hS1 : 1 ≤ S) (hS2 : S ≤ 9) (hn2 : n ≤ 4) (hL : LeavesAt w a raw) (hok : RawOk raw) (hl : raw.length ≤ 9223372036854775807) :
    Calls Try.prog 13 #[.agg #[.int .i64 S, .int .i64 n, .int .i64 T], .slice a raw.length cap] w (RightNew w S n) := by
  obtain ⟨i35, hi35, ha0, ha1, ha2⟩ := info_parts info35
  obtain ⟨i44, hi44, hb0, hb1, hb2⟩ := info_parts info44
  obtain ⟨i45, hi45, hc0, hc1, hc2⟩ := info_parts info45
  have m45 := make45 S (by omega)
  have hL' := Lib.hid hL
  have hok' := Lib.hid hok
  clear hL hok
  go_enter Try.func13, Try.ntmps13
  go_wp2_with fail
  go_loopw [5, 6, 7, 8, 9, 10, 11] (fun v5 c _ _ _ _ _ wx => ∃ (i : Nat) (L : List LH) (a' : Option Addr) (cap' : Nat) (Z : Nat → Prop), i ≤ 12 ∧ L.length = i ∧ c = .int .i64 i ∧ v5 = .slice a' i cap' ∧ OutL wx a' cap' L Z ∧ (∀ h ∈ L, Right S n h.x) ∧ (∀ g, blk a' = some g → w.heap.size < g) ∧ Keeps Nil w wx ∧ wx.heap[w.heap.size]? = some (.cells #[.int .i64 S, .int .i64 n, .int .i64 T] 27) ∧ ∀ k, Z k → w.heap.size ≤ k) (fun _ c _ _ _ _ _ _ => 12 - (intOf c).toNat)
  case atStart => exact ⟨0, [], none, 0, Nil, by omega, rfl, rfl, rfl, ⟨RecRow.nil _ _, (fun h hh => by cases hh), (fun k h => h.elim)⟩, (fun h hh => by cases hh), (fun g hg => by cases hg), (Keeps.refl Nil w).alloc _, heap_alloc_new w _, fun k h => h.elim⟩
  case round =>
    obtain ⟨wo, rfl⟩ : ∃ wo : World, wo = wr := ⟨_, rfl⟩
    obtain ⟨i, L, a', cap', Z, hi, hLl, rfl, rfl, hO, hR, hga, hK, hB, hZn⟩ := hrel
    have hZn' := Lib.hid hZn
    have hga' := Lib.hid hga
    have hO' := Lib.hid hO
    have hR' := Lib.hid hR
    have hK' := Lib.hid hK
    have hB' := Lib.hid hB
    have hLl' := Lib.hid hLl
    have bl0 := cell_of_heap hB 0
    have bl1 := cell_of_heap hB 1
    simp at bl0 bl1
    have hwo := lt_of_heap hB
    clear hO hR hB hLl hga hZn
    by_cases hin : i < raw.length ∧ i < 12
    · obtain ⟨hi1, hi2⟩ := hin
      have d12 : decide ((i : Int) < 12) = true := decide_eq_true (by omega)
      obtain ⟨b, off, ra, rc, rb, rbc, rfl, c0w, c1w, hLf⟩ := hL'.out i hi1
      have hXo := hok'.out _ (List.getElem_mem hi1)
      obtain ⟨X, hX⟩ : ∃ X, raw[i] = X := ⟨_, rfl⟩
      rw [hX] at c0w c1w hLf hXo
      have hLf' := Lib.hid hLf
      have hXo' := Lib.hid hXo
      have c0w' := Lib.hid c0w
      have c1w' := Lib.hid c1w
      have hxl1 := hXo.1.1
      have hxl2 := hXo.1.2.1
      clear hX hLf hXo c0w c1w hK
      go_wp2_with fail
      have hx0 := Lib.hid (heap_alloc_new wo (.cells #[.slice none 0 0, .slice none 0 0] 35))
      have kA := Lib.hid ((Keeps.refl Nil wo).alloc (.cells #[.slice none 0 0, .slice none 0 0] 35))
      clear bl0 bl1
      go_loopw [8, 9, 10, 11] (fun c _ _ _ wx => ∃ (k : Nat) (sa : Option Addr) (sc : Nat) (ba : Option Addr) (bc : Nat) (ds : List Nat) (x : Lf), k ≤ n ∧ x.sl.length = k ∧ c = .int .i64 k ∧ BldL wx S wo.heap.size sa sc ba bc ds x ∧ (∀ q, bown sa ba ds q → wo.heap.size < q) ∧ (∀ s ∈ x.sl, SlOk s) ∧ (∀ d ∈ x.se, SecOk S d) ∧ Keeps Nil wo wx) (fun c _ _ _ _ => n - (intOf c).toNat)
      case atStart => exact ⟨0, none, 0, none, 0, [], ⟨[], []⟩, by omega, rfl, rfl, BldL.empty hx0.out, (fun q h => by rcases h with h | h | h <;> cases h), (fun s h => by cases h), (fun s h => by cases h), kA.out⟩
      case round =>
        obtain ⟨w1, rfl⟩ : ∃ w1 : World, w1 = wr := ⟨_, rfl⟩
        obtain ⟨k, sa, sc, ba, bc, ds, x, hk, hxk, rfl, hBd, hbo, hs1, hs2, hK1⟩ := hrel
        have hBd' := Lib.hid hBd
        have hbo' := Lib.hid hbo
        have hs1' := Lib.hid hs1
        have hs2' := Lib.hid hs2
        have hK1' := Lib.hid hK1
        have hxk' := Lib.hid hxk
        have hBx := hK1.heap hB'.out (fun h => h)
        have hBx' := Lib.hid hBx
        have bl0 := cell_of_heap hBx 0
        have bl1 := cell_of_heap hBx 1
        simp at bl0 bl1
        have hw1 := lt_of_heap hBx
        have kw := hK'.out.trans hK1
        have d0 := kw.cell c0w'.out (fun h => h)
        have d1 := kw.cell c1w'.out (fun h => h)
        have dbl := lt_of_cell d0
        have kw' := Lib.hid kw
        have hox := lt_of_heap hBd.head
        clear hBd hbo hs1 hs2 hK1 hxk hBx kw
        by_cases hkn : k < n
        · go_upto_if 38 with (fail)
          go_cut [9] (fun v9 wy => ∃ s : Sl, v9 = .pointer (some ⟨w1.heap.size, 0, none⟩) ∧ wy.heap[w1.heap.size]? = some (.cells (slC s).toArray 44) ∧ SlOk s ∧ Keeps Nil w1 wy)
          case first =>
            by_cases hks : k < X.sl.length
            · obtain ⟨xb, xo, hxa, x0, x1, x2⟩ := (hLf'.out.sl.nil kw'.out) k hks
              have hsb := (hXo'.out.2.1) _ (List.getElem_mem hks)
              obtain ⟨s, hs⟩ : ∃ s, X.sl[k] = s := ⟨_, rfl⟩
              rw [hs] at x0 x1 x2 hsb
              obtain ⟨ks, ss, qs⟩ := s
              simp only at x0 x1 x2 hsb
              have hxbl := lt_of_cell x0
              obtain ⟨⟨b1, b2⟩, ⟨b3, b4⟩, b5, b6⟩ := hsb
              obtain ⟨ab, hab⟩ : ∃ ab, absI ss = ab := ⟨_, rfl⟩
              have hab0 : 0 ≤ ab := by rw [← hab]; exact absI_nonneg _
              have hAb := Lib.hid (fun W => abs_val ss ab W b3 b4 hab)
              subst hxa
              clear hs hab
              go_wp2_with (go_at_call 14; refine (hAb.out _).mono ?_; rintro e w3 ⟨rfl, rfl⟩)
              go_meet
              refine ⟨⟨ks, ab % 4, qs % 281474976710656⟩, rfl, ?_, ⟨⟨b1, b2⟩, ⟨by simp only; omega, by simp only; omega⟩, by simp only; omega, by simp only; omega⟩, ?_⟩
              · exact heap_alloc_new w1 _
              · exact (Keeps.refl Nil w1).alloc _
            · go_wp2_with fail
              go_meet
              exact ⟨⟨i, 1, 0⟩, rfl, heap_alloc_new w1 _, ⟨⟨by simp only; omega, by simp only; omega⟩, ⟨by simp, by simp⟩, by simp, by simp⟩, (Keeps.refl Nil w1).alloc _⟩
          case rest =>
            obtain ⟨w4, rfl⟩ : ∃ w4 : World, w4 = wc := ⟨_, rfl⟩
            obtain ⟨s, rfl, hs, hso, hky⟩ := hcut
            have hs' := Lib.hid hs
            have hso' := Lib.hid hso
            have hky' := Lib.hid hky
            have k14 := Lib.hid (hK1'.out.trans hky)
            have hB4 := hky.heap hBx'.out (fun h => h)
            have bl0 := cell_of_heap hB4 0
            simp at bl0
            have hB4' := Lib.hid hB4
            have hsl4 := lt_of_heap hs
            clear hs hso hky hB4 d0 d1 bl1
            have bl0' := Lib.hid bl0
            go_upto_block 4 with (fail)
            have kZ := Lib.hid ((Keeps.refl Nil w4).alloc (.cells (dcells (zeroD S)).toArray 5))
            have hz0 := Lib.hid (heap_alloc_new w4 (.cells (dcells (zeroD S)).toArray 5))
            go_cut [11] (fun _ wz => ∃ r : List Int, SecOk S r ∧ wz.heap[w4.heap.size]? = some (.cells (dcells r).toArray 5) ∧ Keeps Nil w4 wz)
            case first =>
              clear bl0
              go_wp2_with fail
              go_loopw [11] (fun c wz => ∃ (j : Nat) (r : List Int), j ≤ S ∧ c = .int .i64 j ∧ SecOk S r ∧ wz.heap[w4.heap.size]? = some (.cells (dcells r).toArray 5) ∧ Keeps Nil w4 wz) (fun c _ => S - (intOf c).toNat)
              case atStart => exact ⟨0, zeroD S, by omega, rfl, ⟨by simp [zeroD], fun v hv => by obtain ⟨_, rfl⟩ := List.mem_replicate.1 hv; exact ⟨by decide, by decide⟩⟩, hz0.out, kZ.out⟩
              case round =>
                obtain ⟨w5, rfl⟩ : ∃ w5 : World, w5 = wr := ⟨_, rfl⟩
                obtain ⟨j, r, hj, rfl, hr, hdb, hkz⟩ := hrel
                have hr' := Lib.hid hr
                have hdb' := Lib.hid hdb
                have hkz' := Lib.hid hkz
                have kw5 := (kw'.out.trans hky'.out).trans hkz
                have b0 := hkz.cell bl0'.out (fun h => h)
                have e0 := kw5.cell c0w'.out (fun h => h)
                have e1 := kw5.cell c1w'.out (fun h => h)
                by_cases hjS : j < S
                · by_cases hks : k < X.se.length
                  · obtain ⟨zb, zo, ra2, rcap2, hrb, z0, znums⟩ := (hLf'.out.se.nil kw5) k hks
                    have hbs := (hXo'.out.2.2) _ (List.getElem_mem hks)
                    obtain ⟨dx, hdx⟩ : ∃ d, X.se[k] = d := ⟨_, rfl⟩
                    rw [hdx] at z0 znums hbs
                    obtain ⟨nd, hnd⟩ : ∃ nd, dx.length = nd := ⟨_, rfl⟩
                    rw [hnd] at z0
                    by_cases hjd : j < nd
                    · obtain ⟨yb, yo, hra2, y0⟩ := znums j (by omega)
                      have hv := hbs (gi dx j) (by rw [gi_eq (by omega)]; exact List.getElem_mem _)
                      obtain ⟨v, hvv⟩ : ∃ v, gi dx j = v := ⟨_, rfl⟩
                      rw [hvv] at y0 hv
                      have q0 := cell_of_heap hdb j
                      have q0' : w5.cell? ⟨w4.heap.size, j, none⟩ = some (.int .u8 (gi r j)) := by
                        rw [q0]
                        have : j < r.length := by rw [hr.1]; exact hjS
                        simp [dcells, gi_eq this, this]
                      have qf := frozen_of_heap hdb j
                      have hv' := Lib.hid hv
                      subst hrb
                      subst hra2
                      clear hkz hr hdb kw5 znums hbs hdx hnd hvv q0 hv
                      go_wp2_with fail
                      go_roundw
                      case rel =>
                        refine ⟨j + 1, r.set j v, by omega, by go_num, ⟨by simpa using hr'.out.1, fun u hu => ?_⟩, ?_, hkz'.out.setCell (.inr (Nat.le_refl _)) _⟩
                        · rcases List.mem_or_eq_of_mem_set hu with h | h
                          · exact hr'.out.2 u h
                          · rw [h]; exact hv'.out
                        · rw [heap_setCell_same hdb'.out]
                          congr 2
                          apply Array.toList_inj.1
                          simp [dcells, List.map_set]
                      case measure => simp [intOf]; omega
                    · subst hrb
                      clear hkz hr hdb kw5 znums hbs hdx hnd
                      go_wp2_with fail
                      go_meet
                      exact ⟨r, hr'.out, hdb'.out, hkz'.out⟩
                  · clear hkz hr hdb kw5
                    go_wp2_with fail
                    go_meet
                    exact ⟨r, hr'.out, hdb'.out, hkz'.out⟩
                · clear hkz hr hdb kw5
                  go_wp2_with fail
                  go_meet
                  exact ⟨r, hr'.out, hdb'.out, hkz'.out⟩
            case rest =>
              obtain ⟨w6, rfl⟩ : ∃ w6 : World, w6 = wc := ⟨_, rfl⟩
              obtain ⟨r, hr, hdb, hkz⟩ := hcut
              have k16 := k14.out.trans hkz
              have k26 := hky'.out.trans hkz
              have hBd6 := hBd'.out.keeps k26 (fun h => h) (fun _ _ h => h)
              have hab := Lib.hid hBd6.nab
              have hx6 := hBd6.head
              rw [hxk'.out] at hx6
              have hs6 := hkz.heap hs'.out (fun h => h)
              obtain ⟨ks, ss, qs⟩ := s
              have u0 := cell_of_heap hs6 0
              have u1 := cell_of_heap hs6 1
              have u2 := cell_of_heap hs6 2
              simp [slC] at u0 u1 u2
              have v0 := cell_of_heap hx6 0
              simp at v0
              have vf := frozen_of_heap hx6 0
              have hbn := hbo'.out
              have nsx := Lib.hid (show ¬ blk sa = some wo.heap.size from fun e => by have := hbn _ (.inl e); omega)
              have nbx := Lib.hid (show ¬ blk ba = some wo.heap.size from fun e => by have := hbn _ (.inr (.inl e)); omega)
              have hsl6 := Lib.hid (show RowAt w6 44 3 sa k sc (recs slC x.sl) by have := hBd6.sl; unfold RecRow at this; rwa [hxk'.out] at this)
              have hse6 := Lib.hid (show RowAt w6 45 1 ba k bc (ds.map (dsl S)) by have := hBd6.se; rwa [hxk'.out] at this)
              have hx6' := Lib.hid hx6
              have hBd6' := Lib.hid hBd6
              have hr' := Lib.hid hr
              have hdb' := Lib.hid hdb
              have k16' := Lib.hid k16
              have hb1' := Lib.hid (show k + 1 ≤ maxLen by unfold maxLen; omega)
              have hb2' := Lib.hid (show (k + 1) * 24 ≤ 140737488355328 by omega)
              have hox6 := lt_of_heap hx6
              have hdl6 := lt_of_heap hdb
              have hsz16 := k16.size
              have hw46 := hkz.size
              have hdx := Lib.hid (show wo.heap.size < w4.heap.size from by have := lt_of_heap (hky'.out.heap hBd'.out.head (fun h => h)); exact this)
              clear hr hdb hkz k16 k26 hBd6 hx6 hs6 hbn bl0
              go_wp2_with (first | (at_builtin; refine wpList_app _ rfl (.tmp 103) (.tmp 105) 32 rfl 44 i44 _ 3 24 Try.underlying32 hi44 hb0 hb1 hb2 rfl (by decide) sa k sc (recs slC x.sl) rfl _ 1 1 [.int .u32 ks, .int .i64 ss, .int .u64 qs] rfl ?_ (by exact hsl6.out.keeps ((Keeps.refl Nil w6).alloc _) (fun _ _ h => h)) (by exact src_rec (heap_alloc_new w6 (.cells #[.int .u32 ks, .int .i64 ss, .int .u64 qs] 44))) (fun h => by cases h) (by simp [Value.oneCell']) hb1'.out hb2'.out; intro sa5 sc5 w7 hr7 hk7 hn7; have k7 := ((Keeps.refl (fun j => blk sa = some j) w6).alloc (.cells #[.int .u32 ks, .int .i64 ss, .int .u64 qs] 44)).trans hk7; have hx7 := k7.heap hx6'.out nsx.out; have s0 := cell_of_heap hx7 0; have s1 := cell_of_heap hx7 1; simp at s0 s1; have sf0 := frozen_of_heap hx7 0; have sl7 := lt_of_heap hx7; have hx8 := Lib.hid (heap_setCell_same hx7 0 (.slice sa5 (k + 1) sc5)); have hr7' := Lib.hid hr7; have k7' := Lib.hid k7; have hn7' := Lib.hid hn7; have hse8 := Lib.hid (RowAt.keeps (RowAt.keeps hse6.out k7 (fun g hg => hab.out g hg)) ((Keeps.refl (· = wo.heap.size) w7).setCell (p := ⟨wo.heap.size, 0, none⟩) (.inl rfl) (.slice sa5 (k + 1) sc5)) (fun g hg e => nbx.out (e ▸ hg))); clear hr7 hk7 hn7 k7 hx7 u0 u1 u2 v0 vf) | (at_builtin; refine wpList_app _ rfl (.tmp 109) (.tmp 111) 33 rfl 45 i45 _ 1 24 Try.underlying33 hi45 hc0 hc1 hc2 rfl (by decide) ba k bc (ds.map (dsl S)) rfl _ 1 1 [.slice (some ⟨w4.heap.size, 0, none⟩) S S] rfl ?_ (by exact hse8.out.keeps ((Keeps.refl Nil _).alloc _) (fun _ _ h => h)) (by exact src_one (cell_new_at (by simp [World.setCell]))) (fun h => by cases h) (by simp [Value.oneCell']) hb1'.out hb2'.out; intro ba5 bc5 w9 hr9 hk9 hn9; have k9 := ((Keeps.refl (fun j => blk ba = some j) _).alloc (.cells #[.slice (some ⟨w4.heap.size, 0, none⟩) S S] 45)).trans hk9; have hx9 := k9.heap hx8.out nbx.out; have t1 := cell_of_heap hx9 1; simp at t1; have tf1 := frozen_of_heap hx9 1; have tl := lt_of_heap hx9; have hx10 := Lib.hid (heap_setCell_same hx9 1 (.slice ba5 (k + 1) bc5)); have hr9' := Lib.hid hr9; have k9' := Lib.hid k9; have hn9' := Lib.hid hn9; clear hr9 hk9 hn9 k9 hx9 s0 s1 sf0))
              go_roundw
              case rel =>
                have kk6 : Keeps (fun j => j = wo.heap.size ∨ blk ba = some j) w7 w9 := (((Keeps.refl (fun j => j = wo.heap.size ∨ blk ba = some j) w7).setCell (p := ⟨wo.heap.size, 0, none⟩) (.inl (.inl rfl)) (.slice sa5 (k + 1) sc5))).trans (k9'.out.mono (fun j hj => .inr hj))
                have kkW : Keeps (· = wo.heap.size) w9 (w9.setCell ⟨wo.heap.size, 1, none⟩ (.slice ba5 (k + 1) bc5)) := (Keeps.refl (· = wo.heap.size) w9).setCell (p := ⟨wo.heap.size, 1, none⟩) (.inl rfl) _
                have hxl := hxk'.out
                obtain ⟨hN, hN2⟩ := hBd6'.out.snoc (s := ⟨ks, ss, qs⟩) (r := r) (db := w4.heap.size) hbo'.out hdb'.out hdx.out hr'.out.1 (by rw [hxl]; exact hr7'.out) k7'.out (hn7'.out.elim .inl (fun e => .inr ⟨_, e.1, by simp⟩)) (by rw [hxl]; exact hr9'.out) kk6 (hn9'.out.elim .inl (fun e => .inr ⟨_, e.1, by simp [World.setCell]⟩)) kkW (by rw [hxl]; simpa using hx10.out)
                have hKf : Keeps Nil wo (w9.setCell ⟨wo.heap.size, 1, none⟩ (.slice ba5 (k + 1) bc5)) := ((k16'.out.trans' k7'.out (fun j hj => .inr (by have := hbo'.out j (.inl hj); omega))).trans' kk6 (fun j hj => .inr (hj.elim (fun e => by omega) (fun e => by have := hbo'.out j (.inr (.inl e)); omega)))).trans' kkW (fun j hj => .inr (by omega))
                refine ⟨k + 1, sa5, sc5, ba5, bc5, _, _, by omega, by simp [hxl], by go_num, hN, hN2, ?_, ?_, hKf⟩
                · intro s' hs'
                  rcases List.mem_append.1 hs' with h | h
                  · exact hs1'.out s' h
                  · simp at h; rw [h]; exact hso'.out
                · intro d' hd'
                  rcases List.mem_append.1 hd' with h | h
                  · exact hs2'.out d' h
                  · simp at h; rw [h]; exact hr'.out
              case measure => simp [intOf]; omega
        · obtain rfl : k = n := by omega
          have hx1 := hBd'.out.head
          rw [hxk'.out] at hx1
          have g0 := cell_of_heap hx1 0
          have g1 := cell_of_heap hx1 1
          simp at g0 g1
          have hO1 := hO'.out.keeps hK1'.out (fun _ _ h => h)
          have hrow := Lib.hid (show RowAt w1 35 2 a' i cap' (recs lhC L) by have := hO1.row; unfold RecRow at this; rwa [hLl'.out] at this)
          have hO1' := Lib.hid hO1
          have hq1 := Lib.hid (show i + 1 ≤ maxLen by unfold maxLen; omega)
          have hq2 := Lib.hid (show (i + 1) * 48 ≤ 140737488355328 by omega)
          have hal := Lib.hid (show ∀ g, blk a' = some g → g < wo.heap.size from fun g hg => RowAt.lt hO'.out.row hg)
          have hbx := Lib.hid (show ¬ blk a' = some w.heap.size from fun e => by have := hga'.out _ e; omega)
          clear hx1 hO1 d0 d1
          go_wp2_with (at_builtin; refine wpList_app _ rfl (.tmp 114) (.tmp 116) 28 rfl 35 i35 _ 2 48 Try.underlying28 hi35 ha0 ha1 ha2 rfl (by decide) a' i cap' (recs lhC L) rfl _ 1 1 [.slice sa k sc, .slice ba k bc] rfl ?_ (by exact hrow.out.keeps ((Keeps.refl Nil w1).alloc _) (fun _ _ h => h)) (by exact src_rec (heap_alloc_new w1 (.cells #[.slice sa k sc, .slice ba k bc] 35))) (fun h => by cases h) (by simp [Value.oneCell']) hq1.out hq2.out; intro a5 cap5 w5 hr5 hk5 hn5; have k5 := ((Keeps.refl (fun j => blk a' = some j) w1).alloc (.cells #[.slice sa k sc, .slice ba k bc] 35)).trans hk5; have hr5' := Lib.hid hr5; have k5' := Lib.hid k5; have hn5' := Lib.hid hn5; clear hr5 hk5 hn5 k5)
          go_roundw
          case rel =>
            have hxl := hxk'.out
            have hn2 := hBd'.out.n2
            have hsz := hK1'.out.size
            have hn6 : ∀ g, blk a5 = some g → blk a' = some g ∨ w1.heap.size ≤ g := fun g hg => hn5'.out.elim (fun e => .inl (e ▸ hg)) (fun e => .inr (by rw [e.1] at hg; cases hg; simp))
            have hZx : ∀ q, (q = wo.heap.size ∨ bown sa ba ds q) → wo.heap.size ≤ q ∧ q < w1.heap.size := fun q hq => hq.elim (fun e => ⟨by omega, by omega⟩) (fun h => ⟨by have := hbo'.out q h; omega, hBd'.out.lt h⟩)
            refine ⟨i + 1, L ++ [⟨x, sa, sc, ba, bc⟩], a5, cap5, fun q => Z q ∨ q = wo.heap.size ∨ bown sa ba ds q, by omega, by simp [hLl'.out], by go_num, rfl, ?_, ?_, ?_, ?_, ?_, ?_⟩
            · have hk5s := k5'.out.size
              refine ⟨?_, ?_, ?_⟩
              · unfold RecRow
                rw [recs_app, recs_one, List.length_append, hLl'.out]
                have e : lhC ⟨x, sa, sc, ba, bc⟩ = [.slice sa k sc, .slice ba k bc] := by
                  show [Value.slice sa x.sl.length sc, Value.slice ba x.se.length bc] = _
                  rw [hn2, hxl]
                rw [e]
                exact hr5'.out
              · intro h hh
                rcases List.mem_append.1 hh with h1 | h1
                · exact ((hO1'.out.lf h h1).keeps k5'.out (fun q hz e => (hO1'.out.no q hz).2 e)).mono (fun _ hz => .inl hz)
                · simp at h1; rw [h1]
                  exact (hBd'.out.lfz.keeps k5'.out (fun q hq e => by have := hal.out q e; have := hZx q hq; omega)).mono (fun _ hz => .inr hz)
              · intro q hq
                rcases hq with hq | hq
                · obtain ⟨g1, g2⟩ := hO1'.out.no q hq
                  refine ⟨by omega, fun e => ?_⟩
                  rcases hn6 q e with h | h
                  · exact g2 h
                  · omega
                · obtain ⟨g1, g2⟩ := hZx q hq
                  refine ⟨by omega, fun e => ?_⟩
                  rcases hn6 q e with h | h
                  · have := hal.out q h; omega
                  · omega
            · intro h hh
              rcases List.mem_append.1 hh with h1 | h1
              · exact hR'.out h h1
              · simp at h1; rw [h1]
                exact ⟨hxl, by rw [hn2]; exact hxl, hs1'.out, hs2'.out⟩
            · intro g hg
              rcases hn6 g hg with h | h
              · exact hga'.out g h
              · omega
            · exact (hK'.out.trans hK1'.out).trans' k5'.out (fun j hj => .inr (by have := hga'.out j hj; omega))
            · exact k5'.out.heap hBx'.out hbx.out
            · intro q hq
              rcases hq with hq | hq
              · exact hZn'.out q hq
              · have := hZx q hq; have := lt_of_heap hB'.out; omega
          case measure => simp [intOf]; omega
    · have hcase : (i < raw.length ∧ ¬ i < 12) ∨ ¬ i < raw.length := by omega
      clear hin hK bl0 bl1
      rcases hcase with ⟨h1, h2⟩ | h1
      all_goals
        go_wp2_with fail
        go_ret
        exact ⟨L, a', cap', Z, by rw [hLl'.out]; rfl, hO'.out, hR'.out, by rw [hLl'.out]; omega, hK'.out, hZn'.out, fun g hg => Nat.le_of_lt (hga'.out g hg)⟩
end Go.Proofs.Ytdgcbjkopmlegaa
