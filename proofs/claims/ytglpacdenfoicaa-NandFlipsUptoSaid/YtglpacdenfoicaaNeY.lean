/- NandKeeps: the walk -/
import Derived.Test.YtglpacdenfoicaaNeX
namespace Go.Proofs.Ytglpacdenfoicaa
open Go.RowKit

theorem make23 (n : Nat) (hn : n ≤ 1000000) (w : World) : (Instr.makeSlice 23 (.int .i64 (n : Int)) (.int .i64 (n : Int))).run Try.prog w = .ok (.slice (some ⟨w.heap.size, 0, none⟩) n n) (w.alloc (.cells (Array.replicate n (.int .i64 0)) 3)) := by
  rw [show Array.replicate n (Value.int .i64 0) = (List.replicate n (.int .i64 0)).toArray from by simp]
  obtain ⟨i3, hi, hz0, hz1, hz2⟩ := info_parts Try.info3n
  exact run_make1 w 23 3 i3 (.int .i64 0) 8 Try.underlying23 hi hz0 hz1 hz2 rfl .i64 .i64 n (by omega) (by omega)
theorem numRow3_replicate {w : World} {g n : Nat} (h : w.heap[g]? = some (.cells (Array.replicate n (.int .i64 0)) 3 (0, 0))) (hn : n ≤ 100000) : NumRow .i64 w 3 (some ⟨g, 0, none⟩) n (List.replicate n 0) := by
  unfold NumRow
  rw [List.length_replicate]
  exact ⟨by simp, .inr ⟨g, n, _, rfl, Nat.zero_le _, h, Nat.le_refl _, by unfold maxLen; omega, by simp, by simp⟩⟩
theorem zero9 (w : World) : (zeroValue 9).run Try.prog w = .ok (.string ByteArray.empty) w := by kernel_rfl
theorem run_neq_str (s : ByteArray) (w : World) : (binOp .neq 9 (.string s) (.string s)).run Try.prog w = .ok (.bool false) w := by
  simp [binOp, run_underlying Try.underlying9, Op.stringOp]
theorem gi_rep (n j : Nat) : gi (List.replicate n 0) j = 0 := by
  unfold gi
  rw [List.getD_eq_getElem?_getD, List.getElem?_replicate]
  split <;> rfl
variable {w0 wr w' w5 w6 : World} {sb ab mb nb Bn P k : Nat} {A A' : Nd} {O O' : Nat → Prop} {KN KN' : List (Int × Value)} {NX : List Int}
theorem KpR.nil (h : KpR w0 wr sb ab mb nb Bn P k) (hk : Keeps Nil wr w') : KpR w0 w' sb ab mb nb Bn P k := by
  obtain ⟨A, O, KN, NX, h1, h2⟩ := h
  exact ⟨A, O, KN, NX, h1.nil hk, h2⟩
/-- the bytes that were read are written over -/
theorem KpC.poke {g : Nat} (h5 : KpC w0 w5 sb ab mb nb Bn P A O k KN NX) (hR : ∀ j, j < Bn → KRel A P KN j ∧ KNxt A P NX j) (h6 : KpC w0 w6 sb ab mb nb Bn P A' O' (k + 1) KN NX) (hB : A'.B = A.B) (hg : w5.heap.size ≤ g) (hO : ¬ O' g) (hk : Keeps (· = g) w6 w') : KpR w0 w' sb ab mb nb Bn P (k + 1) := by
  obtain ⟨c, hc⟩ := h5.nbHeap
  refine ⟨A', O', KN, NX, h6.far hk (fun j hj e => hO (by rw [← e]; exact hj)) (fun j hj => by rw [hj]; exact Nat.le_trans h5.o.keep.size hg) (fun e => ?_) (fun e => ?_) (fun e => ?_), fun j hj => ?_⟩
  · have := lt_of_heap h5.sh; omega
  · have := h5.mp.lt; omega
  · have := lt_of_heap hc; omega
  · have := hR j hj
    unfold KRel KNxt at this ⊢
    rw [hB]; exact this
theorem KpC.cells (h : KpC w0 wr sb ab mb nb Bn P A O k KN NX) : wr.cell? ⟨sb, 1, none⟩ = some (.int .i64 (Bn : Nat)) ∧ wr.cell? ⟨sb, 2, none⟩ = some (.int .i64 (P : Nat)) := by
  have s1 := cell_of_heap h.sh 1
  have s2 := cell_of_heap h.sh 2
  simp only [shCells, List.getElem?_toArray, List.getElem?_cons_zero, List.getElem?_cons_succ] at s1 s2
  exact ⟨s1, s2⟩
theorem KpC.nxt (h : KpC w0 wr sb ab mb nb Bn P A O k KN NX) {b : Nat} (hb : b < Bn) : wr.cell? ⟨nb, b, none⟩ = some (.int .i64 (gi NX b)) ∧ wr.frozen? ⟨nb, b, none⟩ = false := by
  obtain ⟨g, hg, _, h1, h2⟩ := h.nx.cell (q := b) (by rw [h.nxL]; exact hb)
  cases hg
  exact ⟨h1, h2⟩
set_option maxHeartbeats 16000000 in
set_option maxRecDepth 100000 in
theorem keeps4 (x0 x1 : Int) (v2 : Value) (a : Option Addr) (m sc : Nat) (L : List OpN) (w : World) (h0 : -9223372036854775808 ≤ x0 ∧ x0 ≤ 9223372036854775807) (h1 : -9223372036854775808 ≤ x1 ∧ x1 ≤ 9223372036854775807) (hL : OpsAt w a L) (hm : L.length = m) (_ : m ≤ 140737488351232) :
    Calls Try.prog 4 #[.int .i64 x0, .int .i64 x1, v2, .slice a m sc] w fun e w' => e = .returned (.bool true) ∧ Keeps Nil w w' := by
  have hA0 := Lib.hid (fun w => abs11 x0 w h0.1 h0.2)
  have hA1 := Lib.hid (fun w => abs11 x1 w h1.1 h1.2)
  obtain ⟨B', hB4, e0, e0'⟩ := mod_nat 4 (by decide) (absI_nonneg x0)
  obtain ⟨P', hP5, e1, e1'⟩ := mod_nat 5 (by decide) (absI_nonneg x1)
  rw [show ((4 : Nat) : Int) = 4 from rfl] at e0 e0'
  rw [show ((5 : Nat) : Int) = 5 from rfl] at e1 e1'
  have hL' := Lib.hid hL
  have hmk := @run_makeMap Try.prog
  have hns := run_neq_str
  clear hL h0 h1
  go_enter Try.func4, Try.ntmps4
  go_wp2_with fail
  refine (awake10 w).mono ?_
  rintro e w1 ⟨rfl, k1⟩
  have k1' := Lib.hid k1
  clear k1
  go_wp2_with fail
  refine (hA0.out w1).mono ?_
  rintro e w2 ⟨rfl, hw2⟩
  rw [← hw2]
  clear hw2 w2
  go_wp2_with fail
  refine (hA1.out w1).mono ?_
  rintro e w2 ⟨rfl, hw2⟩
  rw [← hw2]
  clear hw2 w2
  go_upto_region 5 with (fail)
  obtain ⟨Bn, hBn⟩ : ∃ n : Nat, (1 : Int) + (B' : Int) = (n : Int) := ⟨1 + B', by omega⟩
  obtain ⟨P, hP⟩ : ∃ n : Nat, (1 : Int) + (P' : Int) = (n : Int) := ⟨1 + P', by omega⟩
  have hBn1 : 1 ≤ Bn ∧ Bn ≤ 4 := by omega
  have hP1 : 1 ≤ P ∧ P ≤ 5 := by omega
  rw [hBn, hP]
  clear hBn hP e0 e0' e1 e1' hA0 hA1 hB4 hP5
  have hf : FitsI (⟨1, Bn, P, 4⟩ : Sh).dies (⟨1, Bn, P, 4⟩ : Sh).blocks (⟨1, Bn, P, 4⟩ : Sh).pages (⟨1, Bn, P, 4⟩ : Sh).bytes := FitsI.of ⟨by simp, by simp, hBn1.1, by simp only; omega, hP1.1, by simp only; omega, by simp, by simp⟩ (by
    show 1 * Bn * P * 4 ≤ 4194304
    have := Nat.mul_le_mul hBn1.2 hP1.2
    rw [Nat.one_mul]; omega)
  have k2 := k1'.out.alloc (.cells (shCells ⟨1, Bn, P, 4⟩) 31)
  have hsb := heap_alloc_new w1 (.cells (shCells ⟨1, Bn, P, 4⟩) 31)
  have hsb' := Lib.hid hsb
  have hNw := Lib.hid (newI_ok (S := ⟨1, Bn, P, 4⟩) (fa := none) (fc := 0) (LA := []) (w0 := w) k2 hf ⟨fun k x h => by simp at h, fun x h => by simp at h, fun x h => by simp at h⟩ (by simp) (by simp))
  clear k2 hf hsb
  go_wp2_with fail
  refine (hNw.out).mono ?_
  rintro e w2 ⟨ab, O, rfl, hO, kO, hOn⟩
  have hsh2 := kO.heap hsb'.out (fun h => h)
  have s1 := cell_of_heap hsh2 1
  simp only [shCells, List.getElem?_toArray, List.getElem?_cons_zero, List.getElem?_cons_succ] at s1
  obtain ⟨w3, hw3⟩ : ∃ w3, w2.alloc (.map #[] 0) = w3 := ⟨_, rfl⟩
  have k3 := (Keeps.refl Nil w2).alloc (.map #[] 0)
  have hm3 := MapAt.made w2
  have hz3 : (w2.alloc (.map #[] 0)).heap.size = w2.heap.size + 1 := by simp
  rw [hw3] at k3 hm3 hz3
  have s13 := k3.cell s1 (fun h => h)
  have hM23 := make23 Bn (by omega) w3
  obtain ⟨w4, hw4⟩ : ∃ w4, w3.alloc (.cells (Array.replicate Bn (.int .i64 0)) 3) = w4 := ⟨_, rfl⟩
  have k4 := (Keeps.refl Nil w3).alloc (.cells (Array.replicate Bn (.int .i64 0)) 3)
  have hn4 := heap_alloc_new w3 (.cells (Array.replicate Bn (.int .i64 0)) 3)
  rw [hw4] at hM23 k4 hn4
  rw [hz3] at hM23 hn4
  obtain ⟨sb, hsbe⟩ : ∃ sb, w1.heap.size = sb := ⟨_, rfl⟩
  obtain ⟨mb, hmbe⟩ : ∃ mb, w2.heap.size = mb := ⟨_, rfl⟩
  obtain ⟨nb, hnbe⟩ : ∃ nb, mb + 1 = nb := ⟨_, rfl⟩
  have hR : KpR w w4 sb ab mb nb Bn P 0 := by
    have q1 : sb < w2.heap.size := by rw [← hsbe]; exact lt_of_heap hsh2
    have q2 := hO.keep.size
    have q3 := k1'.out.size
    have q4 : (w1.alloc (.cells (shCells ⟨1, Bn, P, 4⟩) 31)).heap.size = w1.heap.size + 1 := by simp
    refine ⟨_, O, [], List.replicate Bn 0, ⟨(hO.nil k3).nil k4, rfl, rfl, rfl, (by rw [← hsbe]; exact (k3.trans k4).heap hsh2 (fun h => h)), ?_, by omega, (by rw [← hmbe]; exact hm3.keeps k4 (fun h => h)), ?_, by omega, List.nodup_nil, ?_, by simp, ?_, by omega⟩, ?_⟩
    · intro h
      have := hOn _ h
      omega
    · intro h
      have := hO.lt h
      omega
    · rw [← hnbe, ← hmbe]; exact numRow3_replicate hn4 (by omega)
    · intro h
      have := hO.lt h
      omega
    · intro b hb
      refine ⟨fun p hp => rfl, ?_⟩
      unfold KNxt
      rw [gi_rep]
      exact ⟨rfl, by omega, by omega⟩
  have hR' := Lib.hid hR
  have hmbe' := Lib.hid hmbe
  rw [hmbe, hnbe] at hM23
  clear hR hO kO hOn hsh2 k3 hm3 hz3 k4 hn4 hsb' k1' hNw hmbe
  go_upto_region 9 with (fail)
  rw [hmbe'.out]
  rw [hsbe] at s13
  clear s1 hw3 hsbe hnbe
  go_wp2_with fail
  clear hM23 s13 hmk hw4
  go_loopw [15] (fun i wr => ∃ i' k : Nat, i' ≤ 60 ∧ i' ≤ m ∧ k ≤ 6 * i' ∧ i = .int .i64 i' ∧ Hid (KpR w wr sb ab mb nb Bn P k)) (fun i _ => m - (intOf i).toNat)
  case atStart => exact ⟨0, 0, by decide, Nat.zero_le _, Nat.le_refl _, rfl, hR'⟩
  case round =>
    clear hR'
    obtain ⟨i, k, hi6, him, hki, rfl, hrel⟩ := hrel
    obtain ⟨A, O, KN, NX, hC, hRel⟩ := hrel.out
    have hkp := hC.o.keep
    by_cases hlt : i < m
    · by_cases hl2 : i < 60
      · obtain ⟨o, _, hok, g, off, rfl, c0, c1, c2, c3, c4⟩ := hL'.out.cells (k := i) (by omega)
        have c0 := hkp.cell c0 (fun h => h)
        have c2 := hkp.cell c2 (fun h => h)
        have s1 := cell_of_heap hC.sh 1
        have s2 := cell_of_heap hC.sh 2
        simp only [shCells, List.getElem?_toArray, List.getElem?_cons_zero, List.getElem?_cons_succ] at s1 s2
        have hA0 := Lib.hid (fun w => abs11 o.kind w hok.kind.1 hok.kind.2)
        have hA2 := Lib.hid (fun w => abs11 o.block w hok.block.1 hok.block.2)
        obtain ⟨b, hb, e2, e2'⟩ := mod_nat Bn (by omega) (absI_nonneg o.block)
        obtain ⟨q, hq4, e0, e0'⟩ := mod_nat 4 (by decide) (absI_nonneg o.kind)
        rw [show ((4 : Nat) : Int) = 4 from rfl] at e0 e0'
        have hBn0 : ¬ ((Bn : Int) = 0) := by omega
        have hC' := Lib.hid hC
        have hRel' := Lib.hid hRel
        have hok' := Lib.hid hok
        have c4' := Lib.hid (hkp.cell c4 (fun h => h))
        clear hC hRel hok hrel c3 c4 c1
        go_wp2_with fail
        go_quiet ((go_at_call 11; exact Calls.quiet_of_same ((hA2.out _).mono (fun _ _ h => ⟨h.1, h.2.symm⟩))))
        obtain ⟨wq, hwq⟩ : ∃ wq, wr.drewN nq = wq := ⟨_, rfl⟩
        have kq := (Keeps.refl Nil wr).drewN nq
        rw [hwq] at kq
        rw [hwq]
        have hCq := hC'.out.nil kq
        have c0 := kq.cell c0 (fun h => h)
        have s2 := hCq.cells.2
        obtain ⟨n2, z2⟩ := hCq.nxt hb
        have hnx := (hRel'.out b hb).2
        obtain ⟨y, hy⟩ := Int.eq_ofNat_of_zero_le hnx.2.1
        have hyP : y ≤ P := by have := hnx.2.2; omega
        have hyN := Lib.hid hy
        rw [hy] at n2
        have hCq' := Lib.hid hCq
        have c4q := Lib.hid (kq.cell c4'.out (fun h => h))
        clear hC' hCq hnx hy hwq c2 e2 e2' hA2 hkp c4' kq s1 z2
        by_cases hq0 : q = 0
        · subst hq0
          go_wp2_with fail
          go_quiet ((go_at_call 11; exact Calls.quiet_of_same ((hA0.out _).mono (fun _ _ h => ⟨h.1, h.2.symm⟩))))
          have hKR0 := Lib.hid (show KpR w (wq.drewN nq) sb ab mb nb Bn P k from ⟨A, O, KN, NX, hCq'.out.nil ((Keeps.refl Nil wq).drewN nq), hRel'.out⟩)
          clear hCq' hRel' c0 s2 n2 hA0 c4q e0 e0'
          have hE := Lib.hid (hKR0.out.erase (by omega) hb)
          clear hKR0
          go_wp2_with fail
          refine (hE.out).mono ?_
          rintro e w5 ⟨rfl, hO⟩
          have hO' := Lib.hid hO
          clear hO hE
          go_wp2_with fail
          go_loopw [17] (fun i wr => ∃ j : Nat, j ≤ P ∧ i = .int .i64 j ∧ Hid (KErs w wr sb ab mb nb Bn P (k + 1) b j)) (fun i _ => P - (intOf i).toNat)
          case atStart => exact ⟨0, Nat.zero_le _, rfl, hO'⟩
          case round =>
            clear hO'
            obtain ⟨j, hj, rfl, hrel⟩ := hrel
            obtain ⟨A5, O5, KN5, NX5, hC5, hR5, hM5, hP5, hN5⟩ := hrel.out
            have s5 := hC5.cells.2
            obtain ⟨n5, z5⟩ := hC5.nxt hb
            have hMp := Lib.hid hC5.mp
            by_cases hjP : j < P
            · obtain ⟨bp, hbp⟩ : ∃ bp, b * P = bp := ⟨_, rfl⟩
              have hbp2 : (b : Int) * (P : Int) = (bp : Int) := by rw [← hbp]; exact (Int.natCast_mul b P).symm
              have hbp20 : bp ≤ 20 := by
                have h1 := Nat.mul_le_mul (show b ≤ 4 by omega) hP1.2
                omega
              have hst := Lib.hid (fun W hm hk => KErs.step (w' := W) hC5 hR5 hM5 hP5 hN5 hjP hm hk)
              rw [hbp, show ((bp + j : Nat) : Int) = (bp : Int) + (j : Int) from by omega] at hst
              have hj5 : j < 5 := by omega
              clear hC5 hR5 hM5 hP5 hN5 hbp hrel n5 z5
              go_wp2_with (at_delete; refine wpList_del _ rfl _ _ 44 3 rfl 9 Try.underlying44 Try.underlying3 mb KN5 rfl (by exact hMp.out) _ rfl ?_; intro w6 hm6 hk6 _; have hD := Lib.hid (hst.out w6 hm6 hk6); clear hm6 hk6)
              go_roundw
              case rel => exact ⟨j + 1, by omega, by go_num, hD⟩
              case measure => simp [intOf]; omega
            · have hjn : j = P := by omega
              rw [hjn] at hrel
              have hKR := Lib.hid (hrel.out.done hb)
              clear hC5 hR5 hM5 hP5 hN5 hrel hjn hMp
              go_upto_region 27 with (fail)
              obtain ⟨K, hKk, hKle⟩ : ∃ K, K = k + 1 ∧ K ≤ 6 * i + 1 := ⟨_, rfl, by omega⟩
              rw [← hKk] at hKR
              clear hKk
              go_wp2_with fail
              go_loopw [19] (fun i wr => ∃ j kk : Nat, j ≤ P ∧ kk = K + j ∧ i = .int .i64 j ∧ Hid (KpR w wr sb ab mb nb Bn P kk)) (fun i _ => P - (intOf i).toNat)
              case atStart => exact ⟨0, K, Nat.zero_le _, rfl, rfl, hKR⟩
              case round =>
                clear hKR
                obtain ⟨j, kk, hj, hkk, rfl, hrel⟩ := hrel
                obtain ⟨A5, O5, KN5, NX5, hC5, hR5⟩ := hrel.out
                have hs5 := hC5.cells.2
                by_cases hjP : j < P
                · have hRd := hC5.read (by omega) hb hjP
                  have hlook := (hR5 b hb).1 j hjP
                  have hnx5 := (hR5 b hb).2
                  obtain ⟨y5, hy5⟩ := Int.eq_ofNat_of_zero_le hnx5.2.1
                  have hnxt := hnx5.1
                  rw [hy5] at hnxt
                  obtain ⟨bp, hbp⟩ : ∃ bp, b * P = bp := ⟨_, rfl⟩
                  have hbp2 : (b : Int) * (P : Int) = (bp : Int) := by rw [← hbp]; exact (Int.natCast_mul b P).symm
                  have hbp20 : bp ≤ 20 := by
                    have h1 := Nat.mul_le_mul (show b ≤ 4 by omega) hP1.2
                    omega
                  rw [hbp, show ((bp + j : Nat) : Int) = (bp : Int) + (j : Int) from by omega] at hlook
                  have hC5' := Lib.hid hC5
                  have hR5' := Lib.hid hR5
                  have hnxt' := Lib.hid hnxt
                  have hy5' := Lib.hid hy5
                  have hj5 : j < 5 := by omega
                  cases hpg : (A5.B 0 b).pg j with
                  | none =>
                    rw [hpg] at hRd hlook
                    have hRd' := Lib.hid hRd
                    have hlook' := Lib.hid (show mget ((bp : Int) + (j : Int)) KN5 = none from hlook)
                    clear hRd hlook hC5 hR5 hnxt hy5 hnx5 hpg hrel
                    go_wp2_with fail
                    refine (hRd'.out).mono ?_
                    rintro e w6 ⟨g6, c6, rfl, hr6, hg6, A6, O6, hC6, hB6, hgO6⟩
                    have hn6 := hC6.nxt hb
                    rw [hy5'.out] at hn6
                    obtain ⟨n6, z6⟩ := hn6
                    have s6 := hC6.cells.2
                    have hMp := Lib.hid hC6.mp
                    have hNx := Lib.hid (fun W (hk : Keeps Nil w6 W) => (hC6.nil hk).nextC hb)
                    rw [hB6, hnxt'.out] at hNx
                    have hcv : ∀ n, (convert 22 9 (.slice (some ⟨g6, 0, none⟩) 4 c6)).run Try.prog (w6.drewN n) = .ok (.string ⟨#[255, 255, 255, 255]⟩) (w6.drewN n) := fun n => run_str (d := [255, 255, 255, 255]) ((hr6.keeps ((Keeps.refl Nil w6).drewN n) (fun _ _ h => h)).nums)
                    obtain ⟨_, hgg, _, x6, f6⟩ := hr6.cell (q := 0) (by decide)
                    cases hgg
                    have hpk := Lib.hid (fun W hk => KpC.poke (w' := W) hC5'.out hR5'.out hC6 hB6 hg6 hgO6 hk)
                    clear hr6 hC6 hgO6 hg6 hB6
                    go_wp2_with (at_lookup; refine wpList_look_out _ rfl _ _ 44 rfl 3 9 Try.underlying44 Try.underlying3 zero9 mb KN5 rfl (by exact hMp.out) _ rfl hlook'.out ?_)
                    go_quiet ((go_at_call 18; exact Calls.quiet_of_same (hNx.out _ ((Keeps.refl Nil w6).drewN _))))
                    have x7 := ((Keeps.refl Nil w6).drewN nq).cell x6 (fun h => h)
                    have f7 := ((Keeps.refl Nil w6).drewN nq).frozen f6 (lt_of_cell x6) (fun h => h)
                    go_wp2_with fail
                    go_roundw
                    case rel => exact ⟨j + 1, kk + 1, by omega, by omega, by go_num, Lib.hid (hpk.out _ (((Keeps.refl (· = g6) w6).drewN _).setCell (p := ⟨g6, 0, none⟩) (.inl rfl) _))⟩
                    case measure => simp [intOf]; omega
                  | some l5 =>
                    rw [hpg] at hRd hlook
                    have hRd' := Lib.hid hRd
                    have hlook' := Lib.hid (show mget ((bp : Int) + (j : Int)) KN5 = some (.string (strOfNums l5)) from hlook)
                    have hl5' := Lib.hid (show (pgBytes 4 (some l5)).length = 4 from by
                      have := pgBytes_len hC5'.out.o.good.ok 0 b j
                      rw [hpg, hC5'.out.S] at this
                      exact this)
                    clear hRd hlook hC5 hR5 hnxt hy5 hnx5 hpg hrel
                    go_wp2_with fail
                    refine (hRd'.out).mono ?_
                    rintro e w6 ⟨g6, c6, rfl, hr6, hg6, A6, O6, hC6, hB6, hgO6⟩
                    have hn6 := hC6.nxt hb
                    rw [hy5'.out] at hn6
                    obtain ⟨n6, z6⟩ := hn6
                    have s6 := hC6.cells.2
                    have hMp := Lib.hid hC6.mp
                    have hNx := Lib.hid (fun W (hk : Keeps Nil w6 W) => (hC6.nil hk).nextC hb)
                    rw [hB6, hnxt'.out] at hNx
                    have hcv : ∀ n, (convert 22 9 (.slice (some ⟨g6, 0, none⟩) 4 c6)).run Try.prog (w6.drewN n) = .ok (.string (strOfNums l5)) (w6.drewN n) := fun n => by have := run_str (cap := c6) ((hr6.keeps ((Keeps.refl Nil w6).drewN n) (fun _ _ h => h)).nums); rw [show (pgBytes 4 (some l5)).length = 4 from hl5'.out] at this; exact this
                    obtain ⟨_, hgg, _, x6, f6⟩ := hr6.cell (q := 0) (by rw [hl5'.out]; decide)
                    cases hgg
                    have hpk := Lib.hid (fun W hk => KpC.poke (w' := W) hC5'.out hR5'.out hC6 hB6 hg6 hgO6 hk)
                    clear hr6 hC6 hgO6 hg6 hB6
                    go_wp2_with (at_lookup; refine wpList_look_in _ rfl _ _ 44 rfl 3 9 Try.underlying44 Try.underlying3 zero9 mb KN5 rfl (by exact hMp.out) _ rfl _ hlook'.out ?_)
                    go_quiet ((go_at_call 18; exact Calls.quiet_of_same (hNx.out _ ((Keeps.refl Nil w6).drewN _))))
                    have x7 := ((Keeps.refl Nil w6).drewN nq).cell x6 (fun h => h)
                    have f7 := ((Keeps.refl Nil w6).drewN nq).frozen f6 (lt_of_cell x6) (fun h => h)
                    go_wp2_with fail
                    go_roundw
                    case rel => exact ⟨j + 1, kk + 1, by omega, by omega, by go_num, Lib.hid (hpk.out _ (((Keeps.refl (· = g6) w6).drewN _).setCell (p := ⟨g6, 0, none⟩) (.inl rfl) _))⟩
                    case measure => simp [intOf]; omega
                · go_wp2_with fail
                  go_roundw
                  case rel => exact ⟨i + 1, kk, by omega, by omega, by omega, by go_num, hrel⟩
                  case measure => simp [intOf]; omega
        · have hq1 : ((q : Int) == 0) = false := by simpa using hq0
          have hq2 : (q == 0) = false := by simpa using hq0
          have hq3 : ¬ ((q : Int) = 0) := by omega
          by_cases hyp : y = P
          · have hyp' := hyp.symm
            subst hyp'
            go_wp2_with fail
            go_quiet ((go_at_call 11; exact Calls.quiet_of_same ((hA0.out _).mono (fun _ _ h => ⟨h.1, h.2.symm⟩))))
            have hKR0 := Lib.hid (show KpR w (wq.drewN nq) sb ab mb nb Bn P k from ⟨A, O, KN, NX, hCq'.out.nil ((Keeps.refl Nil wq).drewN nq), hRel'.out⟩)
            clear hCq' hRel' c0 s2 n2 hA0 c4q e0 e0'
            have hE := Lib.hid (hKR0.out.erase (by omega) hb)
            clear hKR0
            go_wp2_with fail
            refine (hE.out).mono ?_
            rintro e w5 ⟨rfl, hO⟩
            have hO' := Lib.hid hO
            clear hO hE
            go_wp2_with fail
            go_loopw [17] (fun i wr => ∃ j : Nat, j ≤ P ∧ i = .int .i64 j ∧ Hid (KErs w wr sb ab mb nb Bn P (k + 1) b j)) (fun i _ => P - (intOf i).toNat)
            case atStart => exact ⟨0, Nat.zero_le _, rfl, hO'⟩
            case round =>
              clear hO'
              obtain ⟨j, hj, rfl, hrel⟩ := hrel
              obtain ⟨A5, O5, KN5, NX5, hC5, hR5, hM5, hP5, hN5⟩ := hrel.out
              have s5 := hC5.cells.2
              obtain ⟨n5, z5⟩ := hC5.nxt hb
              have hMp := Lib.hid hC5.mp
              by_cases hjP : j < P
              · obtain ⟨bp, hbp⟩ : ∃ bp, b * P = bp := ⟨_, rfl⟩
                have hbp2 : (b : Int) * (P : Int) = (bp : Int) := by rw [← hbp]; exact (Int.natCast_mul b P).symm
                have hbp20 : bp ≤ 20 := by
                  have h1 := Nat.mul_le_mul (show b ≤ 4 by omega) hP1.2
                  omega
                have hst := Lib.hid (fun W hm hk => KErs.step (w' := W) hC5 hR5 hM5 hP5 hN5 hjP hm hk)
                rw [hbp, show ((bp + j : Nat) : Int) = (bp : Int) + (j : Int) from by omega] at hst
                have hj5 : j < 5 := by omega
                clear hC5 hR5 hM5 hP5 hN5 hbp hrel n5 z5
                go_wp2_with (at_delete; refine wpList_del _ rfl _ _ 44 3 rfl 9 Try.underlying44 Try.underlying3 mb KN5 rfl (by exact hMp.out) _ rfl ?_; intro w6 hm6 hk6 _; have hD := Lib.hid (hst.out w6 hm6 hk6); clear hm6 hk6)
                go_roundw
                case rel => exact ⟨j + 1, by omega, by go_num, hD⟩
                case measure => simp [intOf]; omega
              · have hjn : j = P := by omega
                rw [hjn] at hrel
                have hKR := Lib.hid (hrel.out.done hb)
                clear hC5 hR5 hM5 hP5 hN5 hrel hjn hMp
                go_upto_region 27 with (fail)
                obtain ⟨K, hKk, hKle⟩ : ∃ K, K = k + 1 ∧ K ≤ 6 * i + 1 := ⟨_, rfl, by omega⟩
                rw [← hKk] at hKR
                clear hKk
                go_wp2_with fail
                go_loopw [19] (fun i wr => ∃ j kk : Nat, j ≤ P ∧ kk = K + j ∧ i = .int .i64 j ∧ Hid (KpR w wr sb ab mb nb Bn P kk)) (fun i _ => P - (intOf i).toNat)
                case atStart => exact ⟨0, K, Nat.zero_le _, rfl, rfl, hKR⟩
                case round =>
                  clear hKR
                  obtain ⟨j, kk, hj, hkk, rfl, hrel⟩ := hrel
                  obtain ⟨A5, O5, KN5, NX5, hC5, hR5⟩ := hrel.out
                  have hs5 := hC5.cells.2
                  by_cases hjP : j < P
                  · have hRd := hC5.read (by omega) hb hjP
                    have hlook := (hR5 b hb).1 j hjP
                    have hnx5 := (hR5 b hb).2
                    obtain ⟨y5, hy5⟩ := Int.eq_ofNat_of_zero_le hnx5.2.1
                    have hnxt := hnx5.1
                    rw [hy5] at hnxt
                    obtain ⟨bp, hbp⟩ : ∃ bp, b * P = bp := ⟨_, rfl⟩
                    have hbp2 : (b : Int) * (P : Int) = (bp : Int) := by rw [← hbp]; exact (Int.natCast_mul b P).symm
                    have hbp20 : bp ≤ 20 := by
                      have h1 := Nat.mul_le_mul (show b ≤ 4 by omega) hP1.2
                      omega
                    rw [hbp, show ((bp + j : Nat) : Int) = (bp : Int) + (j : Int) from by omega] at hlook
                    have hC5' := Lib.hid hC5
                    have hR5' := Lib.hid hR5
                    have hnxt' := Lib.hid hnxt
                    have hy5' := Lib.hid hy5
                    have hj5 : j < 5 := by omega
                    cases hpg : (A5.B 0 b).pg j with
                    | none =>
                      rw [hpg] at hRd hlook
                      have hRd' := Lib.hid hRd
                      have hlook' := Lib.hid (show mget ((bp : Int) + (j : Int)) KN5 = none from hlook)
                      clear hRd hlook hC5 hR5 hnxt hy5 hnx5 hpg hrel
                      go_wp2_with fail
                      refine (hRd'.out).mono ?_
                      rintro e w6 ⟨g6, c6, rfl, hr6, hg6, A6, O6, hC6, hB6, hgO6⟩
                      have hn6 := hC6.nxt hb
                      rw [hy5'.out] at hn6
                      obtain ⟨n6, z6⟩ := hn6
                      have s6 := hC6.cells.2
                      have hMp := Lib.hid hC6.mp
                      have hNx := Lib.hid (fun W (hk : Keeps Nil w6 W) => (hC6.nil hk).nextC hb)
                      rw [hB6, hnxt'.out] at hNx
                      have hcv : ∀ n, (convert 22 9 (.slice (some ⟨g6, 0, none⟩) 4 c6)).run Try.prog (w6.drewN n) = .ok (.string ⟨#[255, 255, 255, 255]⟩) (w6.drewN n) := fun n => run_str (d := [255, 255, 255, 255]) ((hr6.keeps ((Keeps.refl Nil w6).drewN n) (fun _ _ h => h)).nums)
                      obtain ⟨_, hgg, _, x6, f6⟩ := hr6.cell (q := 0) (by decide)
                      cases hgg
                      have hpk := Lib.hid (fun W hk => KpC.poke (w' := W) hC5'.out hR5'.out hC6 hB6 hg6 hgO6 hk)
                      clear hr6 hC6 hgO6 hg6 hB6
                      go_wp2_with (at_lookup; refine wpList_look_out _ rfl _ _ 44 rfl 3 9 Try.underlying44 Try.underlying3 zero9 mb KN5 rfl (by exact hMp.out) _ rfl hlook'.out ?_)
                      go_quiet ((go_at_call 18; exact Calls.quiet_of_same (hNx.out _ ((Keeps.refl Nil w6).drewN _))))
                      have x7 := ((Keeps.refl Nil w6).drewN nq).cell x6 (fun h => h)
                      have f7 := ((Keeps.refl Nil w6).drewN nq).frozen f6 (lt_of_cell x6) (fun h => h)
                      go_wp2_with fail
                      go_roundw
                      case rel => exact ⟨j + 1, kk + 1, by omega, by omega, by go_num, Lib.hid (hpk.out _ (((Keeps.refl (· = g6) w6).drewN _).setCell (p := ⟨g6, 0, none⟩) (.inl rfl) _))⟩
                      case measure => simp [intOf]; omega
                    | some l5 =>
                      rw [hpg] at hRd hlook
                      have hRd' := Lib.hid hRd
                      have hlook' := Lib.hid (show mget ((bp : Int) + (j : Int)) KN5 = some (.string (strOfNums l5)) from hlook)
                      have hl5' := Lib.hid (show (pgBytes 4 (some l5)).length = 4 from by
                        have := pgBytes_len hC5'.out.o.good.ok 0 b j
                        rw [hpg, hC5'.out.S] at this
                        exact this)
                      clear hRd hlook hC5 hR5 hnxt hy5 hnx5 hpg hrel
                      go_wp2_with fail
                      refine (hRd'.out).mono ?_
                      rintro e w6 ⟨g6, c6, rfl, hr6, hg6, A6, O6, hC6, hB6, hgO6⟩
                      have hn6 := hC6.nxt hb
                      rw [hy5'.out] at hn6
                      obtain ⟨n6, z6⟩ := hn6
                      have s6 := hC6.cells.2
                      have hMp := Lib.hid hC6.mp
                      have hNx := Lib.hid (fun W (hk : Keeps Nil w6 W) => (hC6.nil hk).nextC hb)
                      rw [hB6, hnxt'.out] at hNx
                      have hcv : ∀ n, (convert 22 9 (.slice (some ⟨g6, 0, none⟩) 4 c6)).run Try.prog (w6.drewN n) = .ok (.string (strOfNums l5)) (w6.drewN n) := fun n => by have := run_str (cap := c6) ((hr6.keeps ((Keeps.refl Nil w6).drewN n) (fun _ _ h => h)).nums); rw [show (pgBytes 4 (some l5)).length = 4 from hl5'.out] at this; exact this
                      obtain ⟨_, hgg, _, x6, f6⟩ := hr6.cell (q := 0) (by rw [hl5'.out]; decide)
                      cases hgg
                      have hpk := Lib.hid (fun W hk => KpC.poke (w' := W) hC5'.out hR5'.out hC6 hB6 hg6 hgO6 hk)
                      clear hr6 hC6 hgO6 hg6 hB6
                      go_wp2_with (at_lookup; refine wpList_look_in _ rfl _ _ 44 rfl 3 9 Try.underlying44 Try.underlying3 zero9 mb KN5 rfl (by exact hMp.out) _ rfl _ hlook'.out ?_)
                      go_quiet ((go_at_call 18; exact Calls.quiet_of_same (hNx.out _ ((Keeps.refl Nil w6).drewN _))))
                      have x7 := ((Keeps.refl Nil w6).drewN nq).cell x6 (fun h => h)
                      have f7 := ((Keeps.refl Nil w6).drewN nq).frozen f6 (lt_of_cell x6) (fun h => h)
                      go_wp2_with fail
                      go_roundw
                      case rel => exact ⟨j + 1, kk + 1, by omega, by omega, by go_num, Lib.hid (hpk.out _ (((Keeps.refl (· = g6) w6).drewN _).setCell (p := ⟨g6, 0, none⟩) (.inl rfl) _))⟩
                      case measure => simp [intOf]; omega
                  · go_wp2_with fail
                    go_roundw
                    case rel => exact ⟨i + 1, kk, by omega, by omega, by omega, by go_num, hrel⟩
                    case measure => simp [intOf]; omega
          · have hyl : y < P := by omega
            have hy1 : (y == P) = false := by simpa using hyp
            have hy2 : ((y : Int) == (P : Int)) = false := by simp only [beq_eq_false_iff_ne, ne_eq]; omega
            have hy3 : ¬ ((y : Int) = (P : Int)) := by omega
            go_wp2_with fail
            go_quiet ((go_at_call 11; exact Calls.quiet_of_same ((hA0.out _).mono (fun _ _ h => ⟨h.1, h.2.symm⟩))))
            obtain ⟨wx, hwx⟩ : ∃ wx, wq.drewN nq = wx := ⟨_, rfl⟩
            have kx := (Keeps.refl Nil wq).drewN nq
            rw [hwx] at kx
            rw [hwx]
            have hCx := hCq'.out.nil kx
            have c4x := kx.cell c4q.out (fun h => h)
            have hFl := Lib.hid (filled17 (xc := o.c) (m := o.data.length) 4 (by decide) (hok'.out.nums.keeps hCx.o.keep (fun _ _ h => h)) rfl hok'.out.len)
            rw [show ((4 : Nat) : Int) = 4 from rfl] at hFl
            have hCx' := Lib.hid hCx
            clear hCq' hCx c0 s2 n2 hA0 c4q e0 e0' kx hwx hok'
            go_wp2_with fail
            refine (hFl.out).mono ?_
            rintro e w5 ⟨a5, c5, rfl, hr5, k5, hg5⟩
            have hC5 := hCx'.out.nil k5
            have n5 := (hC5.nxt hb).1
            have hc5 : 4 ≤ c5 := by
              rcases RowAt.form hr5 with ⟨_, h, _⟩ | ⟨_, _, _, h, _⟩
              · rw [filL_len] at h; omega
              · rw [filL_len] at h; exact h
            obtain ⟨l5, hl5⟩ : ∃ l5, filL o.data 4 = l5 := ⟨_, rfl⟩
            have hll : l5.length = 4 := by rw [← hl5]; exact filL_len _ _
            rw [hl5] at hr5
            have hyn := (hRel'.out b hb).2
            have hyx : gi NX b = (y : Int) := hyN.out
            rw [hyx] at n5
            have hPg := hCx'.out.prog (by omega) hb hyl (by rw [hyn.1]; exact hyx) k5 hr5.nums hg5 hll (by rw [hll]; exact hc5)
            rw [hll] at hPg
            have hPg' := Lib.hid hPg
            have hll' := Lib.hid hll
            clear hC5 hr5 k5 hg5 hc5 hl5 hll hyn hyx hPg hFl hCx'
            go_wp2_with fail
            refine (hPg'.out).mono ?_
            rintro e w6 ⟨rfl, O6, hC6, hx6⟩
            have s6 := hC6.cells.2
            have n6 := (hC6.nxt hb).1
            rw [hyN.out] at n6
            have hMp := Lib.hid (hC6.mp.keeps (Keeps.refl Nil w6).drew (fun h => h))
            obtain ⟨bp, hbp⟩ : ∃ bp, b * P = bp := ⟨_, rfl⟩
            have hbp2 : (b : Int) * (P : Int) = (bp : Int) := by rw [← hbp]; exact (Int.natCast_mul b P).symm
            have hbp20 : bp ≤ 20 := by
              have h1 := Nat.mul_le_mul (show b ≤ 4 by omega) hP1.2
              omega
            have hy5 : y < 5 := by omega
            have hcv : (convert 22 9 (.slice a5 4 c5)).run Try.prog w6.drew = .ok (.string (strOfNums l5)) w6.drew := by
              have := run_str (cap := c5) (hx6.keeps (Keeps.refl Nil w6).drew (fun _ _ h => h))
              rw [hll'.out] at this
              exact this
            have hC6d := hC6.nil (Keeps.refl Nil w6).drew
            have hkn := Lib.hid (fun W hm hk => KpC.known (w1 := W) (wr := w6.drew) (l := l5) hC6d hRel'.out hb hyl hm hk)
            rw [hbp, show ((bp + y : Nat) : Int) = (bp : Int) + (y : Int) from by omega] at hkn
            have hC6' := Lib.hid hC6d
            have w1 : IntKind.i64.wrap (bp : Int) = (bp : Int) := IntWalk.i64_in _ (by omega)
            have w2 : IntKind.i64.wrap ((bp : Int) + (y : Int)) = (bp : Int) + (y : Int) := IntWalk.i64_in _ (by omega)
            clear hC6 hx6 hC6d hPg' hbp c4x
            go_upto_region 25 with (fail)
            refine wp_region_held_drew (S := fun W => W.cell? ⟨sb, 2, none⟩ = some (.int .i64 (P : Nat)) ∧ W.cell? ⟨nb, b, none⟩ = some (.int .i64 (y : Nat))) (by kernel_rfl) ?q1a (fun hHeld => ?q1b)
            case q1a => (try dsimp only); first | exact ⟨s6, n6⟩ | exact ⟨s7, n7⟩
            case q1b =>
              refine wpAnyH_take (i := 0) (oi := _) (v := ?q1_1v) rfl (by kernel_rfl) (by kernel_rfl) (by kernel_rfl) (fun _ _ _ h => h) (Or.inl ⟨by rfl, ?q1_1y⟩) (by assumption) ?q1_1r
              case q1_1y => (intro w0 hSw; (try dsimp only at hSw); go_simp; try (with_reducible rfl))
              case q1_1r =>
                simp only [Act.put, List.getElem_toArray, List.getElem_cons_zero, List.setIfInBounds_toArray, List.set_cons_zero, List.set_cons_succ]
                refine wpAnyH_take (i := 1) (oi := _) (v := ?q1_2v) rfl (by kernel_rfl) (by kernel_rfl) (by kernel_rfl) (fun _ _ _ h => h) (Or.inl ⟨by rfl, ?q1_2y⟩) (by assumption) ?q1_2r
                case q1_2y => (intro w0 hSw; (try dsimp only at hSw); go_simp; try (with_reducible rfl))
                case q1_2r =>
                  simp only [Act.put, List.getElem_toArray, List.getElem_cons_succ, List.getElem_cons_zero, List.setIfInBounds_toArray, List.set_cons_zero, List.set_cons_succ]
                  refine wpAnyH_take (i := 2) (oi := _) (v := ?q1_3v) rfl (by kernel_rfl) (by kernel_rfl) (by kernel_rfl) (fun _ _ _ h => h) (Or.inl ⟨by rfl, ?q1_3y⟩) (by assumption) ?q1_3r
                  case q1_3y => (intro w0 hSw; (try dsimp only at hSw); go_simp; try (with_reducible rfl))
                  case q1_3r =>
                    simp only [Act.put, List.getElem_toArray, List.getElem_cons_succ, List.getElem_cons_zero, List.setIfInBounds_toArray, List.set_cons_zero, List.set_cons_succ]
                    refine wpAnyH_take (i := 3) (oi := _) (v := ?q1_4v) rfl (by kernel_rfl) (by kernel_rfl) (by kernel_rfl) (fun _ _ _ h => h) (Or.inl ⟨by rfl, ?q1_4y⟩) (by assumption) ?q1_4r
                    case q1_4y => (intro w0 hSw; (try dsimp only at hSw); go_simp; try (with_reducible rfl))
                    case q1_4r =>
                      simp only [Act.put, List.getElem_toArray, List.getElem_cons_succ, List.getElem_cons_zero, List.setIfInBounds_toArray, List.set_cons_zero, List.set_cons_succ]
                      refine wpAnyH_take (i := 4) (oi := _) (v := ?q1_5v) rfl (by kernel_rfl) (by kernel_rfl) (by kernel_rfl) (fun _ _ _ h => h) (Or.inl ⟨by rfl, ?q1_5y⟩) (by assumption) ?q1_5r
                      case q1_5y => (intro w0 hSw; (try dsimp only at hSw); go_simp; try (with_reducible rfl))
                      case q1_5r =>
                        simp only [Act.put, List.getElem_toArray, List.getElem_cons_succ, List.getElem_cons_zero, List.setIfInBounds_toArray, List.set_cons_zero, List.set_cons_succ]
                        refine wpAnyH_take (i := 5) (oi := _) (v := ?q1_6v) rfl (by kernel_rfl) (by kernel_rfl) (by kernel_rfl) (fun _ _ _ h => h) (Or.inl ⟨by rfl, ?q1_6y⟩) (by assumption) ?q1_6r
                        case q1_6y => (intro w0 hSw; (try dsimp only at hSw); go_simp; try (with_reducible rfl))
                        case q1_6r =>
                          simp only [Act.put, List.getElem_toArray, List.getElem_cons_succ, List.getElem_cons_zero, List.setIfInBounds_toArray, List.set_cons_zero, List.set_cons_succ]
                          refine wpAnyH_take (i := 6) (oi := _) (v := ?q1_7v) rfl (by kernel_rfl) (by kernel_rfl) (by kernel_rfl) (fun _ _ _ h => h) (Or.inl ⟨by rfl, ?q1_7y⟩) (by assumption) ?q1_7r
                          case q1_7y => (intro w0 hSw; (try dsimp only at hSw); go_simp; try (with_reducible rfl))
                          case q1_7r =>
                            simp only [Act.put, List.getElem_toArray, List.getElem_cons_succ, List.getElem_cons_zero, List.setIfInBounds_toArray, List.set_cons_zero, List.set_cons_succ]
                            refine wpAnyH_take (i := 7) (oi := _) (v := ?q1_8v) rfl (by kernel_rfl) (by kernel_rfl) (by kernel_rfl) (fun _ _ _ h => h) (Or.inl ⟨by rfl, ?q1_8y⟩) (by assumption) ?q1_8r
                            case q1_8y => (intro w0 hSw; (try dsimp only at hSw); go_simp; try (with_reducible rfl))
                            case q1_8r =>
                              simp only [Act.put, List.getElem_toArray, List.getElem_cons_succ, List.getElem_cons_zero, List.setIfInBounds_toArray, List.set_cons_zero, List.set_cons_succ]
                              refine wpAnyH_take (i := 8) (oi := _) (v := ?q1_9v) rfl (by kernel_rfl) (by kernel_rfl) (by kernel_rfl) (fun _ _ _ h => h) (Or.inl ⟨by rfl, ?q1_9y⟩) (by assumption) ?q1_9r
                              case q1_9y => (intro w0 hSw; (try dsimp only at hSw); go_simp; try (with_reducible rfl))
                              case q1_9r =>
                                simp only [Act.put, List.getElem_toArray, List.getElem_cons_succ, List.getElem_cons_zero, List.setIfInBounds_toArray, List.set_cons_zero, List.set_cons_succ]
                                refine wpAnyH_take (i := 9) (oi := _) (v := ?q1_10v) rfl (by kernel_rfl) (by kernel_rfl) (by kernel_rfl) (fun _ _ _ h => h) (Or.inl ⟨by rfl, ?q1_10y⟩) (by assumption) ?q1_10r
                                case q1_10y => (intro w0 hSw; (try dsimp only at hSw); go_simp; try (with_reducible rfl))
                                case q1_10r =>
                                  simp only [Act.put, List.getElem_toArray, List.getElem_cons_succ, List.getElem_cons_zero, List.setIfInBounds_toArray, List.set_cons_zero, List.set_cons_succ]
                                  refine wpAnyH_take (i := 10) (oi := _) (v := ?q1_11v) rfl (by kernel_rfl) (by kernel_rfl) (by kernel_rfl) (fun _ _ _ h => h) (Or.inl ⟨by rfl, ?q1_11y⟩) (by assumption) ?q1_11r
                                  case q1_11y => (intro w0 hSw; (try dsimp only at hSw); go_simp; try (with_reducible rfl))
                                  case q1_11r =>
                                    simp only [Act.put, List.getElem_toArray, List.getElem_cons_succ, List.getElem_cons_zero, List.setIfInBounds_toArray, List.set_cons_zero, List.set_cons_succ]
                                    refine wpAnyH_ready (rs := [11]) (by kernel_rfl) (by simp) ?q1_12g
                                    case q1_12g =>
                                      refine AllReadyH.cons (o := _) rfl (fun K hK => ?q1_12k) AllReadyH.nil
                                      case q1_12k =>
                                        go_simp
                                        refine hK.out _ _ ?q1_12s (fun hHeld => ?q1_12t)
                                        case q1_12s => (try dsimp only); first | exact ⟨s6, n6⟩ | exact ⟨s7, n7⟩
                                        case q1_12t =>
                                          clear hK K
                                          try simp only [Act.put, List.getElem_toArray, List.getElem_cons_succ, List.getElem_cons_zero, List.setIfInBounds_toArray, List.set_cons_zero, List.set_cons_succ]
                                          refine wpAnyH_ready (rs := [12]) (by kernel_rfl) (by simp) ?q1_13g
                                          case q1_13g =>
                                            refine AllReadyH.cons (o := _) rfl (fun K hK => ?q1_13k) AllReadyH.nil
                                            case q1_13k =>
                                              (refine step_upd _ rfl _ _ _ 44 rfl 3 9 Try.underlying44 Try.underlying3 mb KN (by first | rfl | simp [Act.eval, Act.put]) (by exact hMp.out) _ (by first | rfl | simp [Act.eval, Act.put]) (.string (strOfNums l5)) (by first | rfl | simp [Act.eval, Act.put]) ?_; intro w7 hm7 hk7 hz7; have hC7 := hC6'.out.map hk7 hm7 (nodup_set hC6'.out.nd); have s7 := hC7.cells.2; have n7 := (hC7.nxt hb).1; have f7 := (hC7.nxt hb).2; rw [hyN.out] at n7; have hm7' := Lib.hid hm7; have hk7' := Lib.hid hk7; clear hC7 hm7 hk7 hz7)
                                              refine hK.out _ _ ?q1_13s (fun hHeld => ?q1_13t)
                                              case q1_13s => (try dsimp only); first | exact ⟨s6, n6⟩ | exact ⟨s7, n7⟩
                                              case q1_13t =>
                                                clear hK K
                                                try simp only [Act.put, List.getElem_toArray, List.getElem_cons_succ, List.getElem_cons_zero, List.setIfInBounds_toArray, List.set_cons_zero, List.set_cons_succ]
                                                refine wpAnyH_done (by kernel_rfl) ?q1z _
                                                case q1z =>
                                                  have hKR := Lib.hid (hkn.out w7 hm7'.out hk7'.out)
                                                  clear hm7' hk7' hkn hC6' hMp hcv w1 w2 s6 n6 hbp2 hbp20
                                                  go_upto_region 27 with (fail)
                                                  obtain ⟨K, hKk, hKle⟩ : ∃ K, K = k + 1 ∧ K ≤ 6 * i + 1 := ⟨_, rfl, by omega⟩
                                                  rw [← hKk] at hKR
                                                  clear hKk
                                                  go_wp2_with fail
                                                  go_loopw [19] (fun i wr => ∃ j kk : Nat, j ≤ P ∧ kk = K + j ∧ i = .int .i64 j ∧ Hid (KpR w wr sb ab mb nb Bn P kk)) (fun i _ => P - (intOf i).toNat)
                                                  case atStart => exact ⟨0, K, Nat.zero_le _, rfl, rfl, hKR⟩
                                                  case round =>
                                                    clear hKR
                                                    obtain ⟨j, kk, hj, hkk, rfl, hrel⟩ := hrel
                                                    obtain ⟨A5, O5, KN5, NX5, hC5, hR5⟩ := hrel.out
                                                    have hs5 := hC5.cells.2
                                                    by_cases hjP : j < P
                                                    · have hRd := hC5.read (by omega) hb hjP
                                                      have hlook := (hR5 b hb).1 j hjP
                                                      have hnx5 := (hR5 b hb).2
                                                      obtain ⟨y5, hy5⟩ := Int.eq_ofNat_of_zero_le hnx5.2.1
                                                      have hnxt := hnx5.1
                                                      rw [hy5] at hnxt
                                                      obtain ⟨bp, hbp⟩ : ∃ bp, b * P = bp := ⟨_, rfl⟩
                                                      have hbp2 : (b : Int) * (P : Int) = (bp : Int) := by rw [← hbp]; exact (Int.natCast_mul b P).symm
                                                      have hbp20 : bp ≤ 20 := by
                                                        have h1 := Nat.mul_le_mul (show b ≤ 4 by omega) hP1.2
                                                        omega
                                                      rw [hbp, show ((bp + j : Nat) : Int) = (bp : Int) + (j : Int) from by omega] at hlook
                                                      have hC5' := Lib.hid hC5
                                                      have hR5' := Lib.hid hR5
                                                      have hnxt' := Lib.hid hnxt
                                                      have hy5' := Lib.hid hy5
                                                      have hj5 : j < 5 := by omega
                                                      cases hpg : (A5.B 0 b).pg j with
                                                      | none =>
                                                        rw [hpg] at hRd hlook
                                                        have hRd' := Lib.hid hRd
                                                        have hlook' := Lib.hid (show mget ((bp : Int) + (j : Int)) KN5 = none from hlook)
                                                        clear hRd hlook hC5 hR5 hnxt hy5 hnx5 hpg hrel
                                                        go_wp2_with fail
                                                        refine (hRd'.out).mono ?_
                                                        rintro e w6 ⟨g6, c6, rfl, hr6, hg6, A6, O6, hC6, hB6, hgO6⟩
                                                        have hn6 := hC6.nxt hb
                                                        rw [hy5'.out] at hn6
                                                        obtain ⟨n6, z6⟩ := hn6
                                                        have s6 := hC6.cells.2
                                                        have hMp := Lib.hid hC6.mp
                                                        have hNx := Lib.hid (fun W (hk : Keeps Nil w6 W) => (hC6.nil hk).nextC hb)
                                                        rw [hB6, hnxt'.out] at hNx
                                                        have hcv : ∀ n, (convert 22 9 (.slice (some ⟨g6, 0, none⟩) 4 c6)).run Try.prog (w6.drewN n) = .ok (.string ⟨#[255, 255, 255, 255]⟩) (w6.drewN n) := fun n => run_str (d := [255, 255, 255, 255]) ((hr6.keeps ((Keeps.refl Nil w6).drewN n) (fun _ _ h => h)).nums)
                                                        obtain ⟨_, hgg, _, x6, f6⟩ := hr6.cell (q := 0) (by decide)
                                                        cases hgg
                                                        have hpk := Lib.hid (fun W hk => KpC.poke (w' := W) hC5'.out hR5'.out hC6 hB6 hg6 hgO6 hk)
                                                        clear hr6 hC6 hgO6 hg6 hB6
                                                        go_wp2_with (at_lookup; refine wpList_look_out _ rfl _ _ 44 rfl 3 9 Try.underlying44 Try.underlying3 zero9 mb KN5 rfl (by exact hMp.out) _ rfl hlook'.out ?_)
                                                        go_quiet ((go_at_call 18; exact Calls.quiet_of_same (hNx.out _ ((Keeps.refl Nil w6).drewN _))))
                                                        have x7 := ((Keeps.refl Nil w6).drewN nq).cell x6 (fun h => h)
                                                        have f7 := ((Keeps.refl Nil w6).drewN nq).frozen f6 (lt_of_cell x6) (fun h => h)
                                                        go_wp2_with fail
                                                        go_roundw
                                                        case rel => exact ⟨j + 1, kk + 1, by omega, by omega, by go_num, Lib.hid (hpk.out _ (((Keeps.refl (· = g6) w6).drewN _).setCell (p := ⟨g6, 0, none⟩) (.inl rfl) _))⟩
                                                        case measure => simp [intOf]; omega
                                                      | some l5 =>
                                                        rw [hpg] at hRd hlook
                                                        have hRd' := Lib.hid hRd
                                                        have hlook' := Lib.hid (show mget ((bp : Int) + (j : Int)) KN5 = some (.string (strOfNums l5)) from hlook)
                                                        have hl5' := Lib.hid (show (pgBytes 4 (some l5)).length = 4 from by
                                                          have := pgBytes_len hC5'.out.o.good.ok 0 b j
                                                          rw [hpg, hC5'.out.S] at this
                                                          exact this)
                                                        clear hRd hlook hC5 hR5 hnxt hy5 hnx5 hpg hrel
                                                        go_wp2_with fail
                                                        refine (hRd'.out).mono ?_
                                                        rintro e w6 ⟨g6, c6, rfl, hr6, hg6, A6, O6, hC6, hB6, hgO6⟩
                                                        have hn6 := hC6.nxt hb
                                                        rw [hy5'.out] at hn6
                                                        obtain ⟨n6, z6⟩ := hn6
                                                        have s6 := hC6.cells.2
                                                        have hMp := Lib.hid hC6.mp
                                                        have hNx := Lib.hid (fun W (hk : Keeps Nil w6 W) => (hC6.nil hk).nextC hb)
                                                        rw [hB6, hnxt'.out] at hNx
                                                        have hcv : ∀ n, (convert 22 9 (.slice (some ⟨g6, 0, none⟩) 4 c6)).run Try.prog (w6.drewN n) = .ok (.string (strOfNums l5)) (w6.drewN n) := fun n => by have := run_str (cap := c6) ((hr6.keeps ((Keeps.refl Nil w6).drewN n) (fun _ _ h => h)).nums); rw [show (pgBytes 4 (some l5)).length = 4 from hl5'.out] at this; exact this
                                                        obtain ⟨_, hgg, _, x6, f6⟩ := hr6.cell (q := 0) (by rw [hl5'.out]; decide)
                                                        cases hgg
                                                        have hpk := Lib.hid (fun W hk => KpC.poke (w' := W) hC5'.out hR5'.out hC6 hB6 hg6 hgO6 hk)
                                                        clear hr6 hC6 hgO6 hg6 hB6
                                                        go_wp2_with (at_lookup; refine wpList_look_in _ rfl _ _ 44 rfl 3 9 Try.underlying44 Try.underlying3 zero9 mb KN5 rfl (by exact hMp.out) _ rfl _ hlook'.out ?_)
                                                        go_quiet ((go_at_call 18; exact Calls.quiet_of_same (hNx.out _ ((Keeps.refl Nil w6).drewN _))))
                                                        have x7 := ((Keeps.refl Nil w6).drewN nq).cell x6 (fun h => h)
                                                        have f7 := ((Keeps.refl Nil w6).drewN nq).frozen f6 (lt_of_cell x6) (fun h => h)
                                                        go_wp2_with fail
                                                        go_roundw
                                                        case rel => exact ⟨j + 1, kk + 1, by omega, by omega, by go_num, Lib.hid (hpk.out _ (((Keeps.refl (· = g6) w6).drewN _).setCell (p := ⟨g6, 0, none⟩) (.inl rfl) _))⟩
                                                        case measure => simp [intOf]; omega
                                                    · go_wp2_with fail
                                                      go_roundw
                                                      case rel => exact ⟨i + 1, kk, by omega, by omega, by omega, by go_num, hrel⟩
                                                      case measure => simp [intOf]; omega
      · go_wp2_with fail
        go_ret
        exact ⟨rfl, hkp⟩
    · go_wp2_with fail
      go_ret
      exact ⟨rfl, hkp⟩
end Go.Proofs.Ytglpacdenfoicaa
