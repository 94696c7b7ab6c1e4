/- NandOrder: of a block one page is programmed behind the other -/
import Derived.Test.YtglpacdenfoicaaNeJ
import Derived.Test.YtglpacdenfoicaaNdX
namespace Go.Proofs.Ytglpacdenfoicaa
open Go.RowKit

/-- an array of one block, without faults -/
def OrdA (w0 wr : World) (ab n nx ops k : Nat) : Prop := ∃ A O, NdO w0 wr ab A k O ∧ A.S = ⟨1, 1, n, 1⟩ ∧ A.F = [] ∧ A.off = false ∧ (A.B 0 0).next = (nx : Int) ∧ A.ops = ops
variable {w0 wr : World} {ab n nx ops k : Nat}
theorem OrdA.keep (h : OrdA w0 wr ab n nx ops k) : Keeps Nil w0 wr := by
  obtain ⟨A, O, h1, _⟩ := h
  exact h1.keep
theorem OrdA.le (h : OrdA w0 wr ab n nx ops k) : nx ≤ n ∧ ops ≤ k := by
  obtain ⟨A, O, h1, hS, hF, ho, hn, hp⟩ := h
  have := (h1.good.lt.next 0 0).2
  rw [hn, hS] at this
  have h2 := h1.good.lt.ops
  exact ⟨by simp only at this; omega, by omega⟩
theorem OrdA.new (hk : Keeps Nil w0 wr) (hn : 1 ≤ n ∧ n ≤ 64) : Calls Try.prog 12 #[.agg #[.int .i64 1, .int .i64 1, .int .i64 (n : Nat), .int .i64 1], .slice none 0 0] wr fun e w' => ∃ ab, e = .returned (.tuple #[.pointer (some ⟨ab, 0, none⟩), .int .i64 0]) ∧ OrdA w0 w' ab n 0 0 0 := by
  have hf : FitsI (⟨1, 1, n, 1⟩ : Sh).dies (⟨1, 1, n, 1⟩ : Sh).blocks (⟨1, 1, n, 1⟩ : Sh).pages (⟨1, 1, n, 1⟩ : Sh).bytes := FitsI.of ⟨by simp, by simp, by simp, by simp, hn.1, hn.2, by simp, by simp⟩ (by simp; omega)
  have hL : FtsAt wr none [] := ⟨fun k x h => by simp at h, fun x h => by simp at h, fun x h => by simp at h⟩
  refine (newI_ok (S := ⟨1, 1, n, 1⟩) (fc := 0) hk hf hL (by simp) (by simp)).mono fun e w' h => ?_
  obtain ⟨ab, O, h1, h2, _, _⟩ := h
  exact ⟨ab, h1, _, O, h2, rfl, rfl, rfl, rfl, rfl⟩
theorem OrdA.erase (h : OrdA w0 wr ab n nx ops k) (hk : k ≤ 1000) : Calls Try.prog 16 #[.pointer (some ⟨ab, 0, none⟩), .int .i64 0, .int .i64 0] wr fun e w' => e = .returned (.int .i64 0) ∧ OrdA w0 w' ab n 0 (ops + 1) (k + 1) := by
  obtain ⟨A, O, h1, hS, hF, ho, hn, hp⟩ := h
  have hE : A.eraseI 0 0 = A.erase 0 0 := by
    unfold Nd.eraseI
    rw [if_neg (by rw [ho]; simp), if_neg (by rw [hS]; unfold inAt; simp)]
    rfl
  have he := eraseI_any h1 (by omega) 0 0
  rw [hE, erase_nil hF] at he
  refine he.mono fun e w' hr => ?_
  obtain ⟨h2, O', h3, _, _⟩ := hr
  exact ⟨h2, _, O', h3, hS, hF, ho, by unfold Nd.eraseOk; rw [Nd.setB_same]; rfl, by rw [← hp]; rfl⟩
theorem OrdA.prog_eq {A : Nd} (hS : A.S = ⟨1, 1, n, 1⟩) (ho : A.off = false) {q : Nat} (hq : q < n) (v : Int) : A.programI 0 0 (q : Nat) [v] = if ¬ (A.B 0 0).next = (q : Int) then (42, A) else A.prog 0 0 q [v] := by
  unfold Nd.programI
  rw [if_neg (by rw [ho]; simp), if_neg (by rw [hS]; unfold inPg inAt; simp [hq])]
  rfl
theorem OrdA.prog_ok (h : OrdA w0 wr ab n nx ops k) (hk : k ≤ 1000) {q : Nat} (hq : q < n) (he : q = nx) (v : Int) {fr : Nat × Nat} :
    Calls Try.prog 13 #[.pointer (some ⟨ab, 0, none⟩), .int .i64 0, .int .i64 0, .int .i64 (q : Nat), .slice (some ⟨wr.heap.size, 0, none⟩) 1 1] (wr.alloc (.cells #[.int .u8 v] 5 fr)) fun e w' => e = .returned (.int .i64 0) ∧ OrdA w0 w' ab n (nx + 1) (ops + 1) (k + 1) := by
  obtain ⟨A, O, h1, hS, hF, ho, hn, hp⟩ := h
  have hE := OrdA.prog_eq hS ho hq v
  rw [if_neg (by rw [hn, he]; simp), prog_nil hF] at hE
  refine (prog_lit (m := 1) (c := 1) h1 (by omega) 0 0 q [v] (fr := fr) hE rfl (by simp)).mono fun e w' hr => ?_
  obtain ⟨h2, O', h3, _, _⟩ := hr
  exact ⟨h2, _, O', h3, hS, hF, ho, by unfold Nd.progOk; rw [Nd.setB_same]; show (q : Int) + 1 = _; omega, by rw [← hp]; rfl⟩
theorem OrdA.prog_no (h : OrdA w0 wr ab n nx ops k) (hk : k ≤ 1000) {q : Nat} (hq : q < n) (he : ¬ q = nx) (v : Int) {fr : Nat × Nat} :
    Calls Try.prog 13 #[.pointer (some ⟨ab, 0, none⟩), .int .i64 0, .int .i64 0, .int .i64 (q : Nat), .slice (some ⟨wr.heap.size, 0, none⟩) 1 1] (wr.alloc (.cells #[.int .u8 v] 5 fr)) fun e w' => e = .returned (.int .i64 42) ∧ OrdA w0 w' ab n nx ops (k + 1) := by
  obtain ⟨A, O, h1, hS, hF, ho, hn, hp⟩ := h
  have hE := OrdA.prog_eq hS ho hq v
  rw [if_pos (by rw [hn]; omega)] at hE
  refine (prog_lit (m := 1) (c := 1) h1 (by omega) 0 0 q [v] (fr := fr) hE rfl (by simp)).mono fun e w' hr => ?_
  obtain ⟨h2, O', h3, _, _⟩ := hr
  exact ⟨h2, _, O', h3, hS, hF, ho, hn, hp⟩
theorem OrdA.next (h : OrdA w0 wr ab n nx ops k) : Calls Try.prog 18 #[.pointer (some ⟨ab, 0, none⟩), .int .i64 0, .int .i64 0] wr fun e w' => e = .returned (.int .i64 (nx : Nat)) ∧ w' = wr := by
  obtain ⟨A, O, h1, hS, hF, ho, hn, hp⟩ := h
  have he := nextI_any h1 0 0
  unfold Nd.nextI at he
  rw [if_pos (by rw [hS]; unfold inAt; simp)] at he
  rw [← hn]
  exact he
theorem OrdA.opsC (h : OrdA w0 wr ab n nx ops k) : Calls Try.prog 19 #[.pointer (some ⟨ab, 0, none⟩)] wr fun e w' => e = .returned (.int .i64 (ops : Nat)) ∧ w' = wr := by
  obtain ⟨A, O, h1, hS, hF, ho, hn, hp⟩ := h
  rw [← hp]
  exact opsI_any h1
set_option maxHeartbeats 8000000 in
set_option maxRecDepth 100000 in
theorem order7 (pages : Int) (a : Option Addr) (m c : Nat) (X : List Int) (w : World) (h0 : -9223372036854775808 ≤ pages) (h1 : pages ≤ 9223372036854775807) (hX : NumsAt .i64 w a X) (hm : X.length = m) (_ : m ≤ 140737488351232) (hr : ∀ j, j < m → -9223372036854775808 ≤ gi X j ∧ gi X j ≤ 9223372036854775807) :
    Calls Try.prog 7 #[.int .i64 pages, .slice a m c] w fun e w' => e = .returned (.bool true) ∧ Keeps Nil w w' := by
  have hA := Lib.hid (abs11 pages)
  have hb := Lib.hid (show -9223372036854775808 ≤ pages ∧ pages ≤ 9223372036854775807 from ⟨h0, h1⟩)
  have hp0 := absI_nonneg pages
  obtain ⟨m8, hm8⟩ := Int.eq_ofNat_of_zero_le (Int.emod_nonneg (absI pages) (show (8 : Int) ≠ 0 by decide))
  have hm9 : m8 < 8 := by have := Int.emod_lt_of_pos (absI pages) (show (0 : Int) < 8 by decide); omega
  have hmod : (absI pages).tmod 8 = (m8 : Int) := by rw [Int.tmod_eq_emod_of_nonneg hp0]; exact hm8
  have hmod2 : absI pages % 8 = (m8 : Int) := hm8
  have hX' := Lib.hid hX
  have hr' := Lib.hid hr
  clear hX hr hm8 h0 h1 hp0
  go_enter Try.func7, Try.ntmps7
  go_wp2_with fail
  refine (awake10 w).mono ?_
  rintro e w1 ⟨rfl, k1⟩
  have k1' := Lib.hid k1
  clear k1
  go_wp2_with fail
  refine (hA.out w1 hb.out.1 hb.out.2).mono ?_
  rintro e w2 ⟨rfl, hw2⟩
  rw [← hw2]
  clear hw2 w2
  go_upto_region 5 with (fail)
  obtain ⟨n, hn⟩ : ∃ n : Nat, (1 : Int) + (m8 : Int) = (n : Int) := ⟨1 + m8, by omega⟩
  have hn1 : 1 ≤ n ∧ n ≤ 8 := by omega
  rw [hn]
  clear hn hmod hmod2 hm9 hA
  have hNw := Lib.hid (OrdA.new (n := n) k1'.out (by omega))
  clear k1'
  go_wp2_with fail
  refine (hNw.out).mono ?_
  rintro e w2 ⟨ab, rfl, hO⟩
  have hO' := Lib.hid hO
  clear hO hNw
  go_wp2_with fail
  go_loopw [9, 10, 11] (fun nxv opv i wr => ∃ nx ops k : Nat, k ≤ 100 ∧ k ≤ m ∧ i = .int .i64 k ∧ nxv = .int .i64 (nx : Nat) ∧ opv = .int .i64 (ops : Nat) ∧ Hid (OrdA w wr ab n nx ops k)) (fun _ _ i _ => m - (intOf i).toNat)
  case atStart => exact ⟨0, 0, 0, by decide, Nat.zero_le _, rfl, rfl, rfl, hO'⟩
  case round =>
    obtain ⟨nx, ops, k, hk, hkm, rfl, rfl, rfl, hrel⟩ := hrel
    have hle := hrel.out.le
    by_cases hlt : k < m
    · by_cases hl2 : k < 100
      · obtain ⟨g, off, rfl, hc⟩ := hX'.out k (by omega)
        have c0 := hrel.out.keep.cell hc (fun h => h)
        have hxr := hr'.out k (by omega)
        obtain ⟨x, hx⟩ : ∃ x, gi X k = x := ⟨_, rfl⟩
        rw [hx] at c0 hxr
        have hAx := Lib.hid (abs11 x)
        have hbx := Lib.hid hxr
        have hxp := absI_nonneg x
        have hn0 : ((n : Int) + 1) ≠ 0 := by omega
        obtain ⟨q, hq⟩ := Int.eq_ofNat_of_zero_le (Int.emod_nonneg (absI x) hn0)
        have hqn : q ≤ n := by have := Int.emod_lt_of_pos (absI x) (show (0 : Int) < (n : Int) + 1 by omega); omega
        have hmodx : (absI x).tmod ((n : Int) + 1) = (q : Int) := by rw [Int.tmod_eq_emod_of_nonneg hxp]; exact hq
        have hmodx2 : absI x % ((n : Int) + 1) = (q : Int) := hq
        have hq' := Lib.hid hq
        clear hc hx hxr hxp hn0 hq
        go_wp2_with fail
        refine (hAx.out wr hbx.out.1 hbx.out.2).mono ?_
        rintro e w3 ⟨rfl, hw3⟩
        rw [← hw3]
        clear hw3 w3
        by_cases hqe : q = n
        · subst hqe
          have hE := Lib.hid (hrel.out.erase (by omega))
          go_wp2_with fail
          refine (hE.out).mono ?_
          rintro e w4 ⟨rfl, hO4⟩
          have hO4' := Lib.hid hO4
          clear hO4 hE
          go_wp2_with fail
          go_roundw
          case rel => exact ⟨0, ops + 1, k + 1, by omega, by omega, by go_num, by go_num, by go_num, hO4'⟩
          case measure => simp [intOf]; omega
        · have hql : q < n := by omega
          have e1 : (q == n) = false := by simpa using hqe
          by_cases hqx : q = nx
          · have hP := fun v => Lib.hid (hrel.out.prog_ok (by omega) hql hqx v (fr := (0, 0)))
            subst hqx
            go_wp2_with fail
            refine ((hP _).out).mono ?_
            rintro e w4 ⟨rfl, hO4⟩
            have hO4' := Lib.hid hO4
            have hNx := Lib.hid hO4.next
            have hOp := Lib.hid hO4.opsC
            clear hO4 hP
            go_wp2_with fail
            refine (hNx.out).mono ?_
            rintro e w5 ⟨rfl, h5⟩
            rw [h5, show ((q + 1 : Nat) : Int) = (q : Int) + 1 from by omega]
            clear h5 w5 hNx
            go_wp2_with fail
            refine (hOp.out).mono ?_
            rintro e w5 ⟨rfl, h5⟩
            rw [h5, show ((ops + 1 : Nat) : Int) = (ops : Int) + 1 from by omega]
            clear h5 w5 hOp
            go_wp2_with fail
            go_roundw
            case rel => exact ⟨q + 1, ops + 1, k + 1, by omega, by omega, by go_num, by go_num, by go_num, hO4'⟩
            case measure => simp [intOf]; omega
          · have hP := fun v => Lib.hid (hrel.out.prog_no (by omega) hql hqx v (fr := (0, 0)))
            have e2 : (q == nx) = false := by simpa using hqx
            go_wp2_with fail
            refine ((hP _).out).mono ?_
            rintro e w4 ⟨rfl, hO4⟩
            have hO4' := Lib.hid hO4
            have hNx := Lib.hid hO4.next
            have hOp := Lib.hid hO4.opsC
            clear hO4 hP
            go_wp2_with fail
            refine (hNx.out).mono ?_
            rintro e w5 ⟨rfl, h5⟩
            rw [h5]
            clear h5 w5 hNx
            go_wp2_with fail
            refine (hOp.out).mono ?_
            rintro e w5 ⟨rfl, h5⟩
            rw [h5]
            clear h5 w5 hOp
            go_wp2_with fail
            go_roundw
            case rel => exact ⟨nx, ops, k + 1, by omega, by omega, by go_num, by go_num, by go_num, hO4'⟩
            case measure => simp [intOf]; omega
      · go_wp2_with fail
        go_ret
        exact ⟨rfl, hrel.out.keep⟩
    · go_wp2_with fail
      go_ret
      exact ⟨rfl, hrel.out.keep⟩
end Go.Proofs.Ytglpacdenfoicaa
