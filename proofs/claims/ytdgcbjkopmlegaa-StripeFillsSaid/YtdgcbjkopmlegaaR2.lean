/- stripe: the reference's Sum: leaves together, place by place: the walk -/
import Derived.Test.YtdgcbjkopmlegaaR
import Derived.Deep.CutBlock
namespace Go.Proofs.Ytdgcbjkopmlegaa
open Go.RowKit

attribute [local go_sem ↓] Go.wp_at_zero Go.wp_at_succ

set_option maxHeartbeats 4000000 in
set_option maxRecDepth 100000 in
theorem sum20_bad {w : World} (S N T : Int) (n : Nat) (a : Option Addr) (len cap : Nat) (h : goodLay S N = false) :
    Calls Try.prog 20 #[.agg #[.int .i64 S, .int .i64 N, .int .i64 T], .slice a len cap] w (RefOut w n none) := by
  have hg : ¬ (1 ≤ S ∧ S ≤ 256 ∧ 1 ≤ N ∧ N ≤ 8) := by simpa [goodLay] using h
  clear h
  by_cases h1 : S < 1
  · have d1 := decide_eq_true h1
    clear hg
    go_enter Try.func20, Try.ntmps20
    go_wp2_with fail
    exact bodyPost_ret (v := .tuple #[.agg #[.slice none 0 0, .slice none 0 0], .int .i64 1]) (by simp [results, Try.results20, go_sem]) rfl (.inl ⟨rfl, rfl, by first | exact (((Keeps.refl Nil w).alloc _).alloc _).alloc _ | exact (((((Keeps.refl Nil w).alloc _).alloc _).alloc _).setCell (.inr (by simp)) _).setCell (.inr (by simp)) _⟩)
  · have d1 := decide_eq_false h1
    by_cases h2 : 256 < S
    · have d2 := decide_eq_true h2
      clear hg
      go_enter Try.func20, Try.ntmps20
      go_wp2_with fail
      exact bodyPost_ret (v := .tuple #[.agg #[.slice none 0 0, .slice none 0 0], .int .i64 1]) (by simp [results, Try.results20, go_sem]) rfl (.inl ⟨rfl, rfl, by first | exact (((Keeps.refl Nil w).alloc _).alloc _).alloc _ | exact (((((Keeps.refl Nil w).alloc _).alloc _).alloc _).setCell (.inr (by simp)) _).setCell (.inr (by simp)) _⟩)
    · have d2 := decide_eq_false h2
      by_cases h3 : N < 1
      · have d3 := decide_eq_true h3
        clear hg
        go_enter Try.func20, Try.ntmps20
        go_wp2_with fail
        exact bodyPost_ret (v := .tuple #[.agg #[.slice none 0 0, .slice none 0 0], .int .i64 1]) (by simp [results, Try.results20, go_sem]) rfl (.inl ⟨rfl, rfl, by first | exact (((Keeps.refl Nil w).alloc _).alloc _).alloc _ | exact (((((Keeps.refl Nil w).alloc _).alloc _).alloc _).setCell (.inr (by simp)) _).setCell (.inr (by simp)) _⟩)
      · have d3 := decide_eq_false h3
        have h4 : 8 < N := by omega
        have d4 := decide_eq_true h4
        clear hg
        go_enter Try.func20, Try.ntmps20
        go_wp2_with fail
        exact bodyPost_ret (v := .tuple #[.agg #[.slice none 0 0, .slice none 0 0], .int .i64 1]) (by simp [results, Try.results20, go_sem]) rfl (.inl ⟨rfl, rfl, by first | exact (((Keeps.refl Nil w).alloc _).alloc _).alloc _ | exact (((((Keeps.refl Nil w).alloc _).alloc _).alloc _).setCell (.inr (by simp)) _).setCell (.inr (by simp)) _⟩)

set_option maxHeartbeats 16000000 in
set_option maxRecDepth 100000 in
theorem sum20_good {w : World} (S0 N0 : Int) (S n : Nat) (T : Int) (hS0 : S0 = S) (hN0 : N0 = n) {a : Option Addr} {cap : Nat} {Ls : List Lf} (hS1 : 1 ≤ S) (hS2 : S ≤ 256) (hn1 : 1 ≤ n) (hn2 : n ≤ 8) (hL : LeavesAt w a Ls) (hok : LeavesOk Ls) (hwf : ∀ x ∈ Ls, ∀ s ∈ x.sl, 0 ≤ s.seq ∧ s.seq ≤ 18446744073709551615) (hl : Ls.length ≤ 9223372036854775807) :
    Calls Try.prog 20 #[.agg #[.int .i64 S0, .int .i64 N0, .int .i64 T], .slice a Ls.length cap] w (RefOut w n (sumIf S n Ls)) := by
  obtain ⟨i44, hi44, hb0, hb1, hb2⟩ := info_parts info44
  obtain ⟨i45, hi45, hc0, hc1, hc2⟩ := info_parts info45
  have hL' := Lib.hid hL
  have hok' := Lib.hid hok
  have hwf' := Lib.hid hwf
  clear hL hok hwf
  have hS0' := Lib.hid hS0
  have hN0' := Lib.hid hN0
  have d1 : decide (S0 < 1) = false := decide_eq_false (by omega)
  have d2 : decide (256 < S0) = false := decide_eq_false (by omega)
  have d3 : decide (N0 < 1) = false := decide_eq_false (by omega)
  have d4 : decide (8 < N0) = false := decide_eq_false (by omega)
  clear hS0 hN0
  have b0 := Lib.hid (heap_alloc_old (o' := .cells #[.slice none 0 0, .slice none 0 0] 35) (heap_alloc_old (o' := .cells #[.slice none 0 0, .slice none 0 0] 35) (heap_alloc_new w (.cells #[.int .i64 S0, .int .i64 N0, .int .i64 T] 27))))
  have b1 := Lib.hid (heap_alloc_old (o' := .cells #[.slice none 0 0, .slice none 0 0] 35) (heap_alloc_new (w.alloc (.cells #[.int .i64 S0, .int .i64 N0, .int .i64 T] 27)) (.cells #[.slice none 0 0, .slice none 0 0] 35)))
  have b2 := Lib.hid (heap_alloc_new ((w.alloc (.cells #[.int .i64 S0, .int .i64 N0, .int .i64 T] 27)).alloc (.cells #[.slice none 0 0, .slice none 0 0] 35)) (.cells #[.slice none 0 0, .slice none 0 0] 35))
  have kb := Lib.hid ((((Keeps.refl Nil w).alloc (.cells #[.int .i64 S0, .int .i64 N0, .int .i64 T] 27)).alloc (.cells #[.slice none 0 0, .slice none 0 0] 35)).alloc (.cells #[.slice none 0 0, .slice none 0 0] 35))
  go_enter Try.func20, Try.ntmps20
  go_wp2_with fail
  obtain rfl := hS0'.out
  obtain rfl := hN0'.out
  go_loopw [7, 8] (fun c _ wx => ∃ q : Nat, q ≤ Ls.length ∧ c = .int .i64 q ∧ Hid ((Ls.take q).all (mayB S n) = true) ∧ Keeps Nil w wx ∧ wx.heap[w.heap.size]? = some (.cells #[.int .i64 S, .int .i64 n, .int .i64 T] 27) ∧ wx.heap[w.heap.size + 1]? = some (.cells #[.slice none 0 0, .slice none 0 0] 35) ∧ wx.heap[w.heap.size + 2]? = some (.cells #[.slice none 0 0, .slice none 0 0] 35)) (fun c _ _ => Ls.length - (intOf c).toNat)
  case atStart => exact ⟨0, Nat.zero_le _, rfl, rfl, kb.out, b0.out, by simpa using b1.out, by simpa using b2.out⟩
  case round =>
    obtain ⟨q, hq, rfl, hall, hK, h1, h2, h3⟩ := hrel
    have hK' := Lib.hid hK
    have h1' := Lib.hid h1
    have h2' := Lib.hid h2
    have h3' := Lib.hid h3
    have l0 := cell_of_heap h1 0
    have l1 := cell_of_heap h1 1
    have l2 := cell_of_heap h1 2
    have r0 := cell_of_heap h2 0
    have r1 := cell_of_heap h2 1
    have o0 := cell_of_heap h3 0
    have o1 := cell_of_heap h3 1
    simp at l0 l1 l2 r0 r1 o0 o1
    have fr0 := frozen_of_heap h2 0
    have fr1 := frozen_of_heap h2 1
    have hwl := lt_of_heap h1
    have hwl2 := lt_of_heap h2
    have hwl3 := lt_of_heap h3
    by_cases hlt : q < Ls.length
    · obtain ⟨b, off, sa, sc, ba, bc, rfl, hc0, hc1, hLf⟩ := hL'.out q hlt
      have c0 := hK.cell hc0 (fun h => h)
      have c1 := hK.cell hc1 (fun h => h)
      have hxo := hok'.out _ (List.getElem_mem hlt)
      have hxw := hwf'.out _ (List.getElem_mem hlt)
      have hat := Lib.hid (fun h => all_take (mayB S n) (q := q) hall.out hlt h)
      have haf := Lib.hid (fun h => all_false (mayB S n) (q := q) hlt h)
      obtain ⟨x, hx⟩ : ∃ x, Ls[q] = x := ⟨_, rfl⟩
      rw [hx] at c0 c1 hLf hxo hxw hat haf
      have hM := Lib.hid (show ∀ W, Keeps Nil wr W → Calls Try.prog 27 #[.agg #[.int .i64 S, .int .i64 n, .int .i64 T], .agg #[.slice sa x.sl.length sc, .slice ba x.se.length bc]] W fun e w' => e = .returned (.bool (mayB S n x)) ∧ Keeps Nil W w' from fun W hW => may27 S n T (hLf.nil (hK'.out.trans hW)) hxo hxw)
      obtain ⟨n1, hn1'⟩ : ∃ n1, x.sl.length = n1 := ⟨_, rfl⟩
      obtain ⟨n2, hn2'⟩ : ∃ n2, x.se.length = n2 := ⟨_, rfl⟩
      rw [hn1'] at c0 hM
      rw [hn2'] at c1 hM
      have hLC := Lib.hid (show ∀ W, Keeps Nil wr W → W.cell? ⟨w.heap.size, 0, none⟩ = some (.int .i64 S) ∧ W.cell? ⟨w.heap.size, 1, none⟩ = some (.int .i64 n) ∧ W.cell? ⟨w.heap.size, 2, none⟩ = some (.int .i64 T) ∧ W.cell? ⟨b, off + q * 2, none⟩ = some (.slice sa n1 sc) ∧ W.cell? ⟨b, off + q * 2 + 1, none⟩ = some (.slice ba n2 bc) from fun W hk => ⟨hk.cell l0 (fun h => h), hk.cell l1 (fun h => h), hk.cell l2 (fun h => h), hk.cell c0 (fun h => h), hk.cell c1 (fun h => h)⟩)
      have g1 : (0 : Int) ≤ (q : Int) := by omega
      have g2 : (q : Int) < (Ls.length : Int) := by omega
      clear hK h1 h2 h3 hc0 hc1 hLf hx hn1' hn2' hxo hxw l0 l1 l2 c0 c1
      cases hmx : mayB S n x
      · rw [hmx] at hM
        have hfin := Lib.hid (haf.out hmx)
        clear hmx r0 r1 o0 o1 fr0 fr1
        go_wp2_with fail
        go_region_held3 (fun W => W.cell? ⟨w.heap.size, 0, none⟩ = some (.int .i64 S) ∧ W.cell? ⟨w.heap.size, 1, none⟩ = some (.int .i64 n) ∧ W.cell? ⟨w.heap.size, 2, none⟩ = some (.int .i64 T) ∧ W.cell? ⟨b, off + q * 2, none⟩ = some (.slice sa n1 sc) ∧ W.cell? ⟨b, off + q * 2 + 1, none⟩ = some (.slice ba n2 bc)) ((refine hLC.out _ ?_; first | exact (Keeps.refl Nil wr).drew | exact hk5'.out)) ((go_at_call 27; refine (hM.out _ (by exact (Keeps.refl Nil wr).drew)).mono ?_; rintro e w5 ⟨rfl, hk5⟩; have hk5' := Lib.hid ((Keeps.refl Nil wr).drew.trans hk5); clear hk5))
        have k5 := hk5'.out
        have f2 := k5.heap h2'.out (fun h => h)
        have f3 := k5.heap h3'.out (fun h => h)
        have v0 := cell_of_heap f2 0
        have v1 := cell_of_heap f2 1
        have u0 := cell_of_heap f3 0
        have u1 := cell_of_heap f3 1
        simp at v0 v1 u0 u1
        have vf0 := frozen_of_heap f2 0
        have vf1 := frozen_of_heap f2 1
        have vl := lt_of_heap f2
        clear k5 f2 f3
        go_wp2_with fail
        refine bodyPost_ret (v := .tuple #[.agg #[.slice none 0 0, .slice none 0 0], .int .i64 1]) (by simp [results, Try.results20, go_sem, v0, v1]) rfl ?_
        exact .inl ⟨sumIf_no hfin.out, rfl, ((hK'.out.trans hk5'.out).setCell (.inr (by simp)) _).setCell (.inr (by simp)) _⟩
      · rw [hmx] at hM
        have hat2 := Lib.hid (hat.out hmx)
        clear hmx r0 r1 o0 o1 fr0 fr1
        go_wp2_with fail
        go_region_held3 (fun W => W.cell? ⟨w.heap.size, 0, none⟩ = some (.int .i64 S) ∧ W.cell? ⟨w.heap.size, 1, none⟩ = some (.int .i64 n) ∧ W.cell? ⟨w.heap.size, 2, none⟩ = some (.int .i64 T) ∧ W.cell? ⟨b, off + q * 2, none⟩ = some (.slice sa n1 sc) ∧ W.cell? ⟨b, off + q * 2 + 1, none⟩ = some (.slice ba n2 bc)) ((refine hLC.out _ ?_; first | exact (Keeps.refl Nil wr).drew | exact hk5'.out)) ((go_at_call 27; refine (hM.out _ (by exact (Keeps.refl Nil wr).drew)).mono ?_; rintro e w5 ⟨rfl, hk5⟩; have hk5' := Lib.hid ((Keeps.refl Nil wr).drew.trans hk5); clear hk5))
        go_wp2_with fail
        go_roundw
        case rel => exact ⟨q + 1, by omega, by go_num, hat2, hK'.out.trans hk5'.out, hk5'.out.heap h1'.out (fun h => h), hk5'.out.heap h2'.out (fun h => h), hk5'.out.heap h3'.out (fun h => h)⟩
        case measure => simp [intOf]; omega
    · obtain rfl : q = Ls.length := by omega
      have hall2 := Lib.hid (show Ls.all (mayB S n) = true by have := hall.out; rwa [List.take_of_length_le (Nat.le_refl _)] at this)
      have hnn := Lib.hid (show ∀ x ∈ Ls, x.sl.length = n ∧ x.se.length = n from fun x hx => by
        have := mayB_parts (List.all_eq_true.1 hall2.out x hx)
        omega)
      have hss := Lib.hid (show ∀ x ∈ Ls, ∀ i (_ : i < x.se.length), x.se[i].length ≤ S from fun x hx => mayB_sec (List.all_eq_true.1 hall2.out x hx))
      have m45 := make45 S (by omega)
      clear hK h1 h2 h3 hall r0 r1 o0 o1 fr0 fr1 l0 l1 l2
      go_wp2_with fail
      obtain ⟨ob, hob⟩ : ∃ ob, w.heap.size + 1 + 1 = ob := ⟨_, rfl⟩
      have h3' := Lib.hid (show wr.heap[ob]? = some (.cells #[.slice none 0 0, .slice none 0 0] 35) by rw [← hob]; exact h3'.out)
      rw [hob]
      have hob' := Lib.hid hob
      clear hob
      go_loopw [9, 10, 11, 12, 13, 14] (fun c _ _ _ _ _ wx => ∃ (i : Nat) (sa : Option Addr) (sc : Nat) (ba : Option Addr) (bc : Nat) (ds : List Nat), i ≤ n ∧ c = .int .i64 i ∧ BldL wx S ob sa sc ba bc ds (colL S Ls i) ∧ (∀ k, bown sa ba ds k → ob < k) ∧ Keeps Nil w wx ∧ wx.heap[w.heap.size]? = some (.cells #[.int .i64 S, .int .i64 n, .int .i64 T] 27) ∧ wx.heap[w.heap.size + 1]? = some (.cells #[.slice none 0 0, .slice none 0 0] 35)) (fun c _ _ _ _ _ _ => n - (intOf c).toNat)
      case atStart => exact ⟨0, none, 0, none, 0, [], by omega, rfl, BldL.empty h3'.out, (fun k h => by rcases h with h | h | h <;> cases h), hK'.out, h1'.out, h2'.out⟩
      case round =>
        obtain ⟨wo, rfl⟩ : ∃ wo : World, wo = wr := ⟨_, rfl⟩
        obtain ⟨i, sa, sc, ba, bc, ds, hi, rfl, hBd, hbo, hKo, hlo, hre⟩ := hrel
        have hBd' := Lib.hid hBd
        have hbo' := Lib.hid hbo
        have hKo' := Lib.hid hKo
        have hlo' := Lib.hid hlo
        have hre' := Lib.hid hre
        have l0 := cell_of_heap hlo 0
        have l1 := cell_of_heap hlo 1
        simp at l0 l1
        have hwo := lt_of_heap hlo
        have hox := lt_of_heap hBd.head
        clear hBd hbo hKo hlo hre
        by_cases hin : i < n
        · go_wp2_with fail
          have hs0 := Lib.hid (heap_alloc_old (o' := .cells (dcells (zeroD S)).toArray 5) (heap_alloc_new wo (.cells #[.int .u32 0, .int .i64 0, .int .u64 0] 44)))
          have hd0 := Lib.hid (heap_alloc_new (wo.alloc (.cells #[.int .u32 0, .int .i64 0, .int .u64 0] 44)) (.cells (dcells (zeroD S)).toArray 5))
          rw [heap_alloc_size] at hd0
          have ks0 := Lib.hid (((Keeps.refl Nil wo).alloc (.cells #[.int .u32 0, .int .i64 0, .int .u64 0] 44)).alloc (.cells (dcells (zeroD S)).toArray 5))
          clear l0 l1
          go_loopw [12, 13, 14] (fun c _ _ wx => ∃ k : Nat, k ≤ Ls.length ∧ c = .int .i64 k ∧ wx.heap[wo.heap.size]? = some (.cells (slC (colS (Ls.take k) i)).toArray 44) ∧ wx.heap[wo.heap.size + 1]? = some (.cells (dcells (colB S (Ls.take k) i)).toArray 5) ∧ Keeps Nil wo wx) (fun c _ _ _ => Ls.length - (intOf c).toNat)
          case atStart => exact ⟨0, Nat.zero_le _, rfl, hs0.out, hd0.out, ks0.out⟩
          case round =>
            obtain ⟨w3, rfl⟩ : ∃ w3 : World, w3 = wr := ⟨_, rfl⟩
            obtain ⟨k, hk, rfl, hsb, hdb, hK3⟩ := hrel
            have hsb' := Lib.hid hsb
            have hdb' := Lib.hid hdb
            have hK3' := Lib.hid hK3
            by_cases hkl : k < Ls.length
            · obtain ⟨b, off, ra, rc, rb, rbc, rfl, c0w, c1w, hLf⟩ := hL'.out k hkl
              have hst := Lib.hid (colS_step i hkl)
              have hbt := Lib.hid (colB_step S i hkl)
              have hbl := Lib.hid (colB_len S (Ls.take k) i)
              obtain ⟨n1, n2⟩ := hnn.out _ (List.getElem_mem hkl)
              have hsec := hss.out _ (List.getElem_mem hkl)
              have hxo := hok'.out _ (List.getElem_mem hkl)
              obtain ⟨X, hX⟩ : ∃ X, Ls[k] = X := ⟨_, rfl⟩
              rw [hX] at c0w c1w hLf hst hbt n1 n2 hsec hxo
              rw [n1] at c0w
              rw [n2] at c1w
              have kW := hKo'.out.trans hK3
              have c0 := kW.cell c0w (fun h => h)
              have c1 := kW.cell c1w (fun h => h)
              obtain ⟨xb, xo, hxa, x0, x1, x2⟩ := (hLf.sl.nil kW) i (by omega)
              rw [← sAt_eq] at x0 x1 x2
              have hns := hsec i (by omega)
              rw [← bAt_eq] at hns
              obtain ⟨sx, hsx⟩ : ∃ s, sAt X i = s := ⟨_, rfl⟩
              obtain ⟨dx, hdx⟩ : ∃ d, bAt X i = d := ⟨_, rfl⟩
              obtain ⟨sy, hsy⟩ : ∃ s, colS (Ls.take k) i = s := ⟨_, rfl⟩
              obtain ⟨dy, hdy⟩ : ∃ d, colB S (Ls.take k) i = d := ⟨_, rfl⟩
              have hsec2 : ∀ W, Keeps Nil w W → ∃ zb zo ra2 rcap2, rb = some ⟨zb, zo, none⟩ ∧ W.cell? ⟨zb, zo + i, none⟩ = some (.slice ra2 dx.length rcap2) ∧ NumsAt .u8 W ra2 dx := fun W hW => by
                obtain ⟨zb, zo, ra2, rcap2, h1, h2, h3⟩ := (hLf.se.nil hW) i (by omega)
                rw [← bAt_eq, hdx] at h2 h3
                exact ⟨zb, zo, ra2, rcap2, h1, h2, h3⟩
              have hsec2' := Lib.hid hsec2
              rw [hsx] at x0 x1 x2 hst
              rw [hsy] at hst hsb hsb'
              rw [hdy] at hbt hdb hdb' hbl
              rw [hdx] at hbt hns
              obtain ⟨sxk, sxs, sxq⟩ := sx
              obtain ⟨syk, sys, syq⟩ := sy
              simp only at x0 x1 x2
              subst hxa
              have s0 := cell_of_heap hsb 0
              have s1 := cell_of_heap hsb 1
              have s2 := cell_of_heap hsb 2
              simp [slC] at s0 s1 s2
              have sf0 := frozen_of_heap hsb 0
              have sf1 := frozen_of_heap hsb 1
              have sf2 := frozen_of_heap hsb 2
              have hsl := lt_of_heap hsb
              have hdl := lt_of_heap hdb
              have c0w' := Lib.hid c0w
              have c1w' := Lib.hid c1w
              have hxl := lt_of_cell x0
              have hcl := lt_of_cell c0
              have hns' := Lib.hid hns
              have hn1' := Lib.hid n1
              clear hsb hdb hK3 hX n1 n2 hsec hxo hLf hsx hdx hsy hdy kW hsec2 c1 c0w c1w hns
              go_wp2_with fail
              have hs4 := heap_setCell_same (heap_setCell_same (heap_setCell_same hsb'.out 0 (.int .u32 (bits .xor .u32 syk sxk))) 1 (.int .i64 (bits .xor .i64 sys sxs))) 2 (.int .u64 (bits .xor .u64 syq sxq))
              have hd4 : (((w3.setCell ⟨wo.heap.size, 0, none⟩ (.int .u32 (bits .xor .u32 syk sxk))).setCell ⟨wo.heap.size, 1, none⟩ (.int .i64 (bits .xor .i64 sys sxs))).setCell ⟨wo.heap.size, 2, none⟩ (.int .u64 (bits .xor .u64 syq sxq))).heap[wo.heap.size + 1]? = some (.cells (dcells dy).toArray 5) := by
                rw [heap_setCell_other (by omega), heap_setCell_other (by omega), heap_setCell_other (by omega)]
                exact hdb'.out
              have hk4 : Keeps Nil wo (((w3.setCell ⟨wo.heap.size, 0, none⟩ (.int .u32 (bits .xor .u32 syk sxk))).setCell ⟨wo.heap.size, 1, none⟩ (.int .i64 (bits .xor .i64 sys sxs))).setCell ⟨wo.heap.size, 2, none⟩ (.int .u64 (bits .xor .u64 syq sxq))) := ((hK3'.out.setCell (.inr (Nat.le_refl _)) _).setCell (.inr (Nat.le_refl _)) _).setCell (.inr (Nat.le_refl _)) _
              have hs4' := Lib.hid (heap_alloc_old (o' := .cells #[.int .u32 sxk, .int .i64 sxs, .int .u64 sxq] 44) hs4)
              have hd4' := Lib.hid (heap_alloc_old (o' := .cells #[.int .u32 sxk, .int .i64 sxs, .int .u64 sxq] 44) hd4)
              have hk4' := Lib.hid (hk4.alloc (.cells #[.int .u32 sxk, .int .i64 sxs, .int .u64 sxq] 44))
              clear hs4 hd4 hk4 s0 s1 s2 sf0 sf1 sf2 x0 x1 x2
              generalize ((((w3.setCell ⟨wo.heap.size, 0, none⟩ (.int .u32 (bits .xor .u32 syk sxk))).setCell ⟨wo.heap.size, 1, none⟩ (.int .i64 (bits .xor .i64 sys sxs))).setCell ⟨wo.heap.size, 2, none⟩ (.int .u64 (bits .xor .u64 syq sxq))).alloc (.cells #[.int .u32 sxk, .int .i64 sxs, .int .u64 sxq] 44)) = w4 at hs4' hd4' hk4' ⊢
              obtain ⟨nd, hnd⟩ : ∃ nd, dx.length = nd := ⟨_, rfl⟩
              have hnd' := Lib.hid hnd
              have hdn : nd ≤ S := by rw [← hnd]; exact hns'.out
              clear hnd
              go_loopw [14] (fun c wx => ∃ j : Nat, j ≤ nd ∧ c = .int .i64 j ∧ wx.heap[wo.heap.size + 1]? = some (.cells (dcells (addTo .u8 dy (dx.take j))).toArray 5) ∧ Keeps (· = wo.heap.size + 1) w4 wx) (fun c _ => nd - (intOf c).toNat)
              case atStart => exact ⟨0, Nat.zero_le _, rfl, by rw [List.take_zero, addTo_nil]; exact hd4'.out, Keeps.refl _ _⟩
              case round =>
                obtain ⟨w5, rfl⟩ : ∃ w5 : World, w5 = wr := ⟨_, rfl⟩
                obtain ⟨j, hj, rfl, hdj, hK5⟩ := hrel
                have hdj' := Lib.hid hdj
                have hK5' := Lib.hid hK5
                have kW := hKo'.out.trans (hk4'.out.trans' hK5 (fun j hj => .inr (by omega)))
                have c1 := kW.cell c1w'.out (fun h => h)
                obtain ⟨zb, zo, ra2, rcap2, hrb, z0, znums⟩ := hsec2'.out _ kW
                rw [hnd'.out] at z0
                subst hrb
                have kW' := Lib.hid kW
                clear kW
                by_cases hjn : j < nd
                · obtain ⟨yb, yo, hra2, y0⟩ := znums j (by rw [hnd'.out]; exact hjn)
                  obtain ⟨e1, e2⟩ := addTo_step .u8 dy dx j (by rw [hnd'.out]; exact hjn) (by rw [hnd'.out, hbl.out]; exact hdn)
                  have q0 := cell_of_heap hdj j
                  have q0' : w5.cell? ⟨wo.heap.size + 1, j, none⟩ = some (.int .u8 (gi dy j)) := by
                    rw [q0, ← e1]
                    have : j < (addTo .u8 dy (dx.take j)).length := by rw [addTo_len, hbl.out]; omega
                    simp [dcells, gi_eq this, this]
                  have qf := frozen_of_heap hdj j
                  obtain ⟨v, hvv⟩ : ∃ v, gi dx j = v := ⟨_, rfl⟩
                  obtain ⟨u, huu⟩ : ∃ u, gi dy j = u := ⟨_, rfl⟩
                  rw [hvv] at y0 e2
                  rw [huu] at q0' e2
                  have e2' := Lib.hid e2
                  have hdl5 := lt_of_heap hdj
                  subst hra2
                  clear hdj hK5 znums e1 e2 hvv huu q0
                  have p1 : (0 : Int) ≤ (j : Int) := by omega
                  have p2 : (j : Int) < (S : Int) := by omega
                  have p3 : (j : Int) < (nd : Int) := by omega
                  have p4 : (0 : Int) ≤ (i : Int) := by omega
                  have p5 : (i : Int) < (n : Int) := by omega
                  have p6 : (0 : Int) ≤ (k : Int) := by omega
                  have p7 : (k : Int) < (Ls.length : Int) := by omega
                  go_wp2_with fail
                  go_region_with (fail)
                  all_goals
                    go_wp2_with fail
                    go_roundw
                    case rel =>
                      refine ⟨j + 1, by omega, by go_num, ?_, ?_⟩
                      · rw [← e2'.out]
                        first | rw [heap_setCell_same hdj'.out] | (show (World.setCell w5.drew _ _).heap[_]? = _; rw [heap_setCell_same (w := w5.drew) hdj'.out])
                        congr 2
                        apply Array.toList_inj.1
                        simp [dcells, List.map_set]
                      · first | exact hK5'.out.drew.setCell (.inl rfl) _ | exact (hK5'.out.setCell (.inl rfl) _).drew | exact hK5'.out.setCell (.inl rfl) _
                    case measure => simp [intOf]; omega
                · obtain rfl : j = nd := by omega
                  clear hdj hK5 znums
                  go_wp2_with fail
                  go_roundw
                  case rel =>
                    refine ⟨k + 1, by omega, by go_num, ?_, ?_, hk4'.out.trans' hK5'.out (fun j hj => .inr (by omega))⟩
                    · rw [← hst.out]
                      have := hK5'.out.heap hs4'.out (by omega)
                      simpa [slC, slXor] using this
                    · rw [← hbt.out]
                      have := hdj'.out
                      rwa [List.take_of_length_le (by rw [hnd'.out]; omega)] at this
                  case measure => simp [intOf]; omega
            · obtain rfl : k = Ls.length := by omega
              rw [List.take_of_length_le (Nat.le_refl _)] at hsb hdb hsb' hdb'
              obtain ⟨sy, hsy⟩ : ∃ s, colS Ls i = s := ⟨_, rfl⟩
              obtain ⟨dy, hdy⟩ : ∃ d, colB S Ls i = d := ⟨_, rfl⟩
              have hcs := Lib.hid (colL_step S Ls i)
              have hdl := Lib.hid (colB_len S Ls i)
              have hxk' := Lib.hid (colL_slots S Ls i)
              rw [hsy, hdy] at hcs
              rw [hsy] at hsb
              rw [hdy] at hdb hdl
              obtain ⟨x, hx⟩ : ∃ x, colL S Ls i = x := ⟨_, rfl⟩
              rw [hx] at hBd' hcs hxk'
              obtain ⟨ks, ss, qs⟩ := sy
              have hBd6 := hBd'.out.keeps hK3 (fun h => h) (fun _ _ h => h)
              have hab := Lib.hid hBd6.nab
              have hx6 := hBd6.head
              rw [hxk'.out] at hx6
              have u0 := cell_of_heap hsb 0
              have u1 := cell_of_heap hsb 1
              have u2 := cell_of_heap hsb 2
              simp [slC] at u0 u1 u2
              have v0 := cell_of_heap hx6 0
              simp at v0
              have vf := frozen_of_heap hx6 0
              have hbn := hbo'.out
              have nsx := Lib.hid (show ¬ blk sa = some ob from fun e => by have := hbn _ (.inl e); omega)
              have nbx := Lib.hid (show ¬ blk ba = some ob from fun e => by have := hbn _ (.inr (.inl e)); omega)
              have hsl6 := Lib.hid (show RowAt w3 44 3 sa i sc (recs slC x.sl) by have := hBd6.sl; unfold RecRow at this; rwa [hxk'.out] at this)
              have hse6 := Lib.hid (show RowAt w3 45 1 ba i bc (ds.map (dsl S)) by have := hBd6.se; rwa [hxk'.out] at this)
              have hx6' := Lib.hid hx6
              have hBd6' := Lib.hid hBd6
              have hdb2 := Lib.hid hdb
              have hb1' := Lib.hid (show i + 1 ≤ maxLen by unfold maxLen; omega)
              have hb2' := Lib.hid (show (i + 1) * 24 ≤ 140737488355328 by omega)
              have hox6 := lt_of_heap hx6
              have hdl6 := lt_of_heap hdb
              have hsbl6 := lt_of_heap hsb
              have hsz3 := hK3.size
              clear hsb hdb hsb' hdb' hK3 hBd6 hx6 hbn hsy hdy hx
              go_wp2_with (first | (at_builtin; refine wpList_app _ rfl (.tmp 124) (.tmp 126) 32 rfl 44 i44 _ 3 24 Try.underlying32 hi44 hb0 hb1 hb2 rfl (by decide) sa i sc (recs slC x.sl) rfl _ 1 1 [.int .u32 ks, .int .i64 ss, .int .u64 qs] rfl ?_ (by exact hsl6.out.keeps ((Keeps.refl Nil w3).alloc _) (fun _ _ h => h)) (by exact src_rec (heap_alloc_new w3 (.cells #[.int .u32 ks, .int .i64 ss, .int .u64 qs] 44))) (fun h => by cases h) (by simp [Value.oneCell']) hb1'.out hb2'.out; intro sa5 sc5 w7 hr7 hk7 hn7; have k7 := ((Keeps.refl (fun j => blk sa = some j) w3).alloc (.cells #[.int .u32 ks, .int .i64 ss, .int .u64 qs] 44)).trans hk7; have hx7 := k7.heap hx6'.out nsx.out; have s0 := cell_of_heap hx7 0; have s1 := cell_of_heap hx7 1; simp at s0 s1; have sf0 := frozen_of_heap hx7 0; have sl7 := lt_of_heap hx7; have hx8 := Lib.hid (heap_setCell_same hx7 0 (.slice sa5 (i + 1) sc5)); have hr7' := Lib.hid hr7; have k7' := Lib.hid k7; have hn7' := Lib.hid hn7; have hse8 := Lib.hid (RowAt.keeps (RowAt.keeps hse6.out k7 (fun g hg => hab.out g hg)) ((Keeps.refl (· = ob) w7).setCell (p := ⟨ob, 0, none⟩) (.inl rfl) (.slice sa5 (i + 1) sc5)) (fun g hg e => nbx.out (e ▸ hg))); clear hr7 hk7 hn7 k7 hx7 u0 u1 u2 v0 vf) | (at_builtin; refine wpList_app _ rfl (.tmp 130) (.tmp 132) 33 rfl 45 i45 _ 1 24 Try.underlying33 hi45 hc0 hc1 hc2 rfl (by decide) ba i bc (ds.map (dsl S)) rfl _ 1 1 [.slice (some ⟨wo.heap.size + 1, 0, none⟩) S S] rfl ?_ (by exact hse8.out.keeps ((Keeps.refl Nil _).alloc _) (fun _ _ h => h)) (by exact src_one (cell_new_at (by simp [World.setCell]))) (fun h => by cases h) (by simp [Value.oneCell']) hb1'.out hb2'.out; intro ba5 bc5 w9 hr9 hk9 hn9; have k9 := ((Keeps.refl (fun j => blk ba = some j) _).alloc (.cells #[.slice (some ⟨wo.heap.size + 1, 0, none⟩) S S] 45)).trans hk9; have hx9 := k9.heap hx8.out nbx.out; have t1 := cell_of_heap hx9 1; simp at t1; have tf1 := frozen_of_heap hx9 1; have tl := lt_of_heap hx9; have hx10 := Lib.hid (heap_setCell_same hx9 1 (.slice ba5 (i + 1) bc5)); have hr9' := Lib.hid hr9; have k9' := Lib.hid k9; have hn9' := Lib.hid hn9; clear hr9 hk9 hn9 k9 hx9 s0 s1 sf0))
              go_roundw
              case rel =>
                have kk6 : Keeps (fun j => j = ob ∨ blk ba = some j) w7 w9 := (((Keeps.refl (fun j => j = ob ∨ blk ba = some j) w7).setCell (p := ⟨ob, 0, none⟩) (.inl (.inl rfl)) (.slice sa5 (i + 1) sc5))).trans (k9'.out.mono (fun j hj => .inr hj))
                have kkW : Keeps (· = ob) w9 (w9.setCell ⟨ob, 1, none⟩ (.slice ba5 (i + 1) bc5)) := (Keeps.refl (· = ob) w9).setCell (p := ⟨ob, 1, none⟩) (.inl rfl) _
                have hxl := hxk'.out
                obtain ⟨hN, hN2⟩ := hBd6'.out.snoc (s := ⟨ks, ss, qs⟩) (r := dy) (db := wo.heap.size + 1) hbo'.out hdb2.out (by omega) hdl.out (by rw [hxl]; exact hr7'.out) k7'.out (hn7'.out.elim .inl (fun e => .inr ⟨_, e.1, by simp⟩)) (by rw [hxl]; exact hr9'.out) kk6 (hn9'.out.elim .inl (fun e => .inr ⟨_, e.1, by simp [World.setCell]⟩)) kkW (by rw [hxl]; simpa using hx10.out)
                have hKf : Keeps (fun j => j = ob ∨ blk sa = some j ∨ blk ba = some j) wo (w9.setCell ⟨ob, 1, none⟩ (.slice ba5 (i + 1) bc5)) := (((hK3'.out.mono (T := fun j => j = ob ∨ blk sa = some j ∨ blk ba = some j) (fun _ h => h.elim)).trans' k7'.out (fun j hj => .inl (.inr (.inl hj)))).trans' kk6 (fun j hj => .inl (hj.elim .inl (fun e => .inr (.inr e))))).trans' kkW (fun j hj => .inl (.inl hj))
                have hge : ∀ j, (j = ob ∨ blk sa = some j ∨ blk ba = some j) → ob ≤ j := fun j hj => by
                  rcases hj with h | h | h
                  · omega
                  · have := hbo'.out j (.inl h); omega
                  · have := hbo'.out j (.inr (.inl h)); omega
                have hob2 := hob'.out
                rw [hcs.out] at hN
                exact ⟨i + 1, sa5, sc5, ba5, bc5, _, by omega, by go_num, hN, hN2, hKo'.out.trans' hKf (fun j hj => .inr (by have := hge j hj; omega)), hKf.heap hlo'.out (fun h => by have := hge _ h; omega), hKf.heap hre'.out (fun h => by have := hge _ h; omega)⟩
              case measure => simp [intOf]; omega
        · obtain rfl : i = n := by omega
          have hx1 := hBd'.out.head
          rw [colL_slots] at hx1
          have g0 := cell_of_heap hx1 0
          have g1 := cell_of_heap hx1 1
          simp at g0 g1
          have r0 := cell_of_heap hre'.out 0
          have r1 := cell_of_heap hre'.out 1
          simp at r0 r1
          have fr0 := frozen_of_heap hre'.out 0
          have fr1 := frozen_of_heap hre'.out 1
          have hrl := lt_of_heap hre'.out
          have hob2 := Lib.hid (show w.heap.size + 1 < ob from by have := hob'.out; omega)
          clear hx1
          go_wp2_with fail
          refine bodyPost_ret (v := .tuple #[.agg #[.slice sa i sc, .slice ba i bc], .int .i64 0]) (by simp [results, Try.results20, go_sem, r0, r1]) rfl ?_
          have kE : Keeps (· = w.heap.size + 1) wo ((wo.setCell ⟨w.heap.size + 1, 0, none⟩ (.slice sa i sc)).setCell ⟨w.heap.size + 1, 1, none⟩ (.slice ba i bc)) := ((Keeps.refl (· = w.heap.size + 1) wo).setCell (.inl rfl) _).setCell (.inl rfl) _
          refine .inr ⟨colL S Ls i, sa, sc, ba, bc, fun k => k = ob ∨ bown sa ba ds k, ?_, rfl, ?_, ?_, colL_slots S Ls i, colL_secs S Ls i, hKo'.out.trans' kE (fun j hj => .inr (by omega))⟩
          · rw [← sumL_colL hnn.out]; exact sumIf_yes hall2.out
          · exact (hBd'.out.keeps kE (by have := hob2.out; omega) (fun k hk e => by have := hbo'.out k hk; have := hob2.out; omega)).lfz
          · rintro k (rfl | hk)
            · have := hob2.out; omega
            · have := hbo'.out k hk; have := hob2.out; omega
end Go.Proofs.Ytdgcbjkopmlegaa
