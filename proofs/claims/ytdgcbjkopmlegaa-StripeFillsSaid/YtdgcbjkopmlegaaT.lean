/- StripeTurned: the walk -/
import Derived.Test.YtdgcbjkopmlegaaP
import Derived.Test.YtdgcbjkopmlegaaQ
namespace Go.Proofs.Ytdgcbjkopmlegaa
open Go.RowKit

attribute [local go_sem ↓] Go.wp_at_zero Go.wp_at_succ

def zeroLh : LH := ⟨⟨[], []⟩, none, 0, none, 0⟩
/-- L turned by t: its first i -/
def turnL (L : List LH) (t i : Nat) : List LH := (List.range i).map fun j => L.getD ((j + t) % L.length) zeroLh
theorem turnL_len (L : List LH) (t i : Nat) : (turnL L t i).length = i := by simp [turnL]
theorem turnL_step (L : List LH) (t i : Nat) : turnL L t (i + 1) = turnL L t i ++ [L.getD ((i + t) % L.length) zeroLh] := by simp [turnL, List.range_succ]
theorem turnL_mem {L : List LH} {t i : Nat} (hl : 0 < L.length) {h : LH} (hh : h ∈ turnL L t i) : h ∈ L := by
  obtain ⟨j, _, rfl⟩ := List.mem_map.1 hh
  have : (j + t) % L.length < L.length := Nat.mod_lt _ hl
  have e : L.getD ((j + t) % L.length) zeroLh = L[(j + t) % L.length] := by simp [List.getD, this]
  rw [e]
  exact List.getElem_mem _
theorem turnL_all {L : List LH} {t : Nat} (ht : t < L.length) : turnL L t L.length = L.drop t ++ L.take t := by
  apply List.ext_getElem?
  intro j
  by_cases hj : j < L.length
  · have h1 : (turnL L t L.length)[j]? = some (L.getD ((j + t) % L.length) zeroLh) := by simp [turnL, hj]
    rw [h1]
    by_cases h2 : j < L.length - t
    · rw [List.getElem?_append_left (by simp; exact h2), List.getElem?_drop, Nat.mod_eq_of_lt (by omega), show t + j = j + t by omega]
      simp [List.getD, show j + t < L.length by omega]
    · rw [List.getElem?_append_right (by simp; omega), List.getElem?_take]
      have e : (j + t) % L.length = j - (L.length - t) := by
        rw [Nat.mod_eq_sub_mod (by omega), Nat.mod_eq_of_lt (by omega)]; omega
      rw [e, List.length_drop, if_pos (by omega)]
      simp [List.getD, show j - (L.length - t) < L.length by omega]
  · rw [List.getElem?_eq_none (by rw [turnL_len]; omega), List.getElem?_eq_none (by simp; omega)]

/-- two rows of leaves beside each other -/
structure TwoL (w0 w : World) (a : Option Addr) (cap : Nat) (L : List LH) (a2 : Option Addr) (cap2 : Nat) (M : List LH) (Z : Nat → Prop) : Prop where
  l : OutL w a cap L Z
  m : RecRow lhC 2 w 35 a2 cap2 M
  no : ∀ k, Z k ∨ blk a = some k → blk a2 ≠ some k
  ge : ∀ g, blk a2 = some g → w0.heap.size ≤ g
  k : Keeps Nil w0 w
theorem TwoL.leaves {w0 w : World} {a a2 : Option Addr} {cap cap2 : Nat} {L M : List LH} {Z : Nat → Prop} (h : TwoL w0 w a cap L a2 cap2 M Z) (hM : ∀ x ∈ M, x ∈ L) : LeavesAt w a2 (M.map (·.x)) :=
  OutL.leaves (Z := Z) ⟨h.m, fun x hx => h.l.lf x (hM x hx), fun k hk => ⟨(h.l.no k hk).1, h.no k (.inl hk)⟩⟩
theorem TwoL.nil {w0 w w' : World} {a a2 : Option Addr} {cap cap2 : Nat} {L M : List LH} {Z : Nat → Prop} (h : TwoL w0 w a cap L a2 cap2 M Z) (hk : Keeps Nil w w') : TwoL w0 w' a cap L a2 cap2 M Z :=
  ⟨h.l.keeps hk (fun _ _ h => h), RowAt.keeps h.m hk (fun _ _ h => h), h.no, h.ge, h.k.trans hk⟩
theorem TwoL.app {w0 w w' : World} {a a2 a5 : Option Addr} {cap cap2 cap5 : Nat} {L M : List LH} {Z : Nat → Prop} {x : LH} (h : TwoL w0 w a cap L a2 cap2 M Z) (hr : RowAt w' 35 2 a5 (M.length + 1) cap5 (recs lhC M ++ lhC x)) (hk : Keeps (fun j => blk a2 = some j) w w') (hn : blk a5 = blk a2 ∨ ∃ g, blk a5 = some g ∧ w.heap.size ≤ g) :
    TwoL w0 w' a cap L a5 cap5 (M ++ [x]) Z := by
  have hz : ∀ k, Z k ∨ blk a = some k → k < w.heap.size := fun k hk => hk.elim (fun h1 => (h.l.no k h1).1) (fun h1 => RowAt.lt h.l.row h1)
  refine ⟨h.l.keeps hk (fun k h1 e => h.no k h1 e), ?_, fun k h1 e => ?_, fun g hg => ?_, h.k.trans' hk (fun j hj => .inr (h.ge j hj))⟩
  · unfold RecRow
    rw [recs_app, recs_one, List.length_append]
    exact hr
  · rcases hn with e1 | ⟨g, e1, h2⟩
    · exact h.no k h1 (e1 ▸ e)
    · rw [e1] at e; cases e
      have := hz k h1
      omega
  · rcases hn with e1 | ⟨g', e1, h2⟩
    · exact h.ge g (e1 ▸ hg)
    · rw [e1] at hg; cases hg
      exact Nat.le_trans h.k.size h2

theorem heap_at {X : World} {o : Obj} {n : Nat} (h : X.heap.size = n) : (X.alloc o).drew.heap[n]? = some o := by subst h; exact heap_alloc_new X o
theorem heap_at0 {X : World} {o : Obj} {n : Nat} (h : X.heap.size = n) : (X.alloc o).heap[n]? = some o := by subst h; exact heap_alloc_new X o
theorem heap_at2 {X : World} {o o' : Obj} {n : Nat} (h : X.heap.size = n) : ((X.alloc o).alloc o').drew.heap[n]? = some o := by subst h; exact heap_alloc_old (heap_alloc_new X o)
def zLf : Obj := .cells #[.slice none 0 0, .slice none 0 0] 35

set_option maxHeartbeats 16000000 in
set_option maxRecDepth 100000 in
theorem turned4 {w : World} (S0 N0 T0 turn : Int) {a : Option Addr} {cap : Nat} {raw : List Lf} (hS0 : -9223372036854775808 ≤ S0) (hS1 : S0 ≤ 9223372036854775807) (hN0 : -9223372036854775808 ≤ N0) (hN1 : N0 ≤ 9223372036854775807) (ht0 : -9223372036854775808 ≤ turn) (ht1 : turn ≤ 9223372036854775807) (hL : LeavesAt w a raw) (hok : RawOk raw) (hl : raw.length ≤ 9223372036854775807) :
    Calls Try.prog 4 #[.agg #[.int .i64 S0, .int .i64 N0, .int .i64 T0], .slice a raw.length cap, .int .i64 turn] w fun e w' => e = .returned (.bool true) ∧ Keeps Nil w w' := by
  obtain ⟨i35, hi35, ha0, ha1, ha2'⟩ := info_parts info35
  have hL' := Lib.hid hL
  have hok' := Lib.hid hok
  have hSm := Lib.hid (fun W => small12 (w := W) S0 N0 T0 hS0 hS1 hN0 hN1)
  obtain ⟨ab, hab⟩ : ∃ ab, absI turn = ab := ⟨_, rfl⟩
  have hab0 : 0 ≤ ab := by rw [← hab]; exact absI_nonneg _
  have hAb := Lib.hid (fun W => abs_val turn ab W ht0 ht1 hab)
  clear hL hok hab hS0 hS1 hN0 hN1 ht0 ht1
  go_enter Try.func4, Try.ntmps4
  go_wp2_with fail
  refine (awake9 _).mono ?_
  rintro e w1 ⟨rfl, hk1⟩
  have hb1 := hk1.heap (heap_alloc_new w (.cells #[.int .i64 S0, .int .i64 N0, .int .i64 T0] 27)) (fun h => h)
  have l0 := cell_of_heap hb1 0
  have l1 := cell_of_heap hb1 1
  have l2 := cell_of_heap hb1 2
  simp at l0 l1 l2
  have hb1' := Lib.hid hb1
  have k01 := Lib.hid (((Keeps.refl Nil w).alloc (.cells #[.int .i64 S0, .int .i64 N0, .int .i64 T0] 27)).trans hk1)
  clear hb1 hk1
  go_wp2_with fail
  refine (hSm.out _).mono ?_
  rintro e w2 ⟨S, n, p1, p2, p3, p4, rfl, hk2⟩
  have hb2 := hk2.heap hb1'.out (fun h => h)
  have l0 := cell_of_heap hb2 0
  have l1 := cell_of_heap hb2 1
  have l2 := cell_of_heap hb2 2
  simp at l0 l1 l2
  have lf0 := frozen_of_heap hb2 0
  have lf1 := frozen_of_heap hb2 1
  have lf2 := frozen_of_heap hb2 2
  have hwl := lt_of_heap hb2
  have hb2' := Lib.hid hb2
  have k02 := Lib.hid (k01.out.trans hk2)
  clear hb2 hk2
  go_wp2_with fail
  have hb3 := heap_setCell_same (heap_setCell_same (heap_setCell_same hb2'.out 0 (.int .i64 S)) 1 (.int .i64 n)) 2 (.int .i64 1)
  have kS := (((Keeps.refl (· = w.heap.size) w2).setCell (p := ⟨w.heap.size, 0, none⟩) (.inl rfl) (.int .i64 S)).setCell (p := ⟨w.heap.size, 1, none⟩) (.inl rfl) (.int .i64 n)).setCell (p := ⟨w.heap.size, 2, none⟩) (.inl rfl) (.int .i64 1)
  obtain ⟨w3, hw3⟩ : ∃ w3, ((w2.setCell ⟨w.heap.size, 0, none⟩ (.int .i64 S)).setCell ⟨w.heap.size, 1, none⟩ (.int .i64 n)).setCell ⟨w.heap.size, 2, none⟩ (.int .i64 1) = w3 := ⟨_, rfl⟩
  rw [hw3] at hb3 kS ⊢
  have k03 := Lib.hid (k02.out.trans' kS (fun j hj => .inr (by rw [hj]; exact Nat.le_refl _)))
  have hb3' : Hid (w3.heap[w.heap.size]? = some (.cells #[.int .i64 S, .int .i64 n, .int .i64 1] 27)) := hb3
  clear hw3 hb3 kS l0 l1 l2 lf0 lf1 lf2
  refine (right13 S n 1 p1 p2 p4 (hL'.out.nil k03.out) hok'.out hl).mono ?_
  rintro e w4 ⟨L, a1, cap1, Z, rfl, hO, hR, hm12, hk4⟩
  have hb4 := hk4.heap hb3'.out (fun h => h)
  have hb4' := Lib.hid hb4
  have l0 := cell_of_heap hb4 0
  have l1 := cell_of_heap hb4 1
  have l2 := cell_of_heap hb4 2
  simp at l0 l1 l2
  have k04 := Lib.hid (k03.out.trans hk4)
  have hR' := Lib.hid hR
  have hO' := Lib.hid hO
  obtain ⟨m, hm⟩ : ∃ m, L.length = m := ⟨_, rfl⟩
  rw [hm] at hm12
  rw [hm]
  have hm' := Lib.hid hm
  clear hb4 hk4 hR hO hm
  by_cases hm0 : m = 0
  · subst hm0
    go_wp2_with fail
    go_ret
    exact ⟨rfl, k04.out⟩
  · have e1 : ((m : Int) == 0) = false := by simpa using hm0
    have e1' : (m == 0) = false := by simpa using hm0
    obtain ⟨tt, htt, htm⟩ : ∃ tt : Nat, ab.tmod (m : Int) = tt ∧ tt < m := by
      refine ⟨(ab % (m : Int)).toNat, ?_, ?_⟩
      · rw [Int.tmod_eq_emod_of_nonneg hab0]
        have := Int.emod_nonneg ab (show (m : Int) ≠ 0 by omega)
        omega
      · have := Int.emod_lt_of_pos ab (show (0 : Int) < m by omega)
        have := Int.emod_nonneg ab (show (m : Int) ≠ 0 by omega)
        omega
    have hmp : 0 < m := by omega
    clear hm0
    go_wp2_with fail
    refine (hAb.out _).mono ?_
    rintro e w5 ⟨rfl, rfl⟩
    go_wp2_with fail
    have hT0 := Lib.hid (show TwoL w w4 a1 cap1 L none 0 (turnL L tt 0) Z from ⟨hO'.out, by simpa [turnL] using (RecRow.nil w4 35 : RecRow lhC 2 w4 35 none 0 []), (fun k _ e => by cases e), (fun g hg => by cases hg), k04.out⟩)
    have hlL := Lib.hid (show (L.map (·.x)).length = m by rw [List.length_map, hm'.out])
    have hRx := Lib.hid (show ∀ x ∈ L.map (·.x), Right S n x from fun x hx => by obtain ⟨h, hh, rfl⟩ := List.mem_map.1 hx; exact hR'.out h hh)
    have hSum := Lib.hid (show ∀ (W : World) (b : Option Addr) (c k : Nat) (Ls : List Lf), LeavesAt W b Ls → (∀ x ∈ Ls, Right S n x) → Ls.length = k → k ≤ 1000 → Calls Try.prog 15 #[.agg #[.int .i64 S, .int .i64 n, .int .i64 1], .slice b k c] W (SumOut W S n (some (sumL S n Ls))) from fun W b c k Ls h1 h2 h3 h4 => by
      subst h3
      have := sum15_good (cap := c) (S : Int) (n : Int) S n 1 rfl rfl p1 (by omega) p3 (by omega) h1 (fun x hx => (h2 x hx).ok (by omega) (by omega)) (by omega)
      rw [right_all h2] at this
      exact this)
    clear htt l0 l1 l2
    go_loopw [10, 11] (fun v c wx => ∃ (i : Nat) (a2 : Option Addr) (cap2 : Nat), i ≤ m ∧ c = .int .i64 i ∧ v = .slice a2 i cap2 ∧ TwoL w wx a1 cap1 L a2 cap2 (turnL L tt i) Z ∧ wx.heap[w.heap.size]? = some (.cells #[.int .i64 S, .int .i64 n, .int .i64 1] 27)) (fun _ c _ => m - (intOf c).toNat)
    case atStart => exact ⟨0, none, 0, by omega, rfl, rfl, hT0.out, hb4'.out⟩
    case round =>
      obtain ⟨i, a2, cap2, hi, rfl, rfl, hT, hb⟩ := hrel
      have hT' := Lib.hid hT
      have hb' := Lib.hid hb
      have l0 := cell_of_heap hb 0
      have l1 := cell_of_heap hb 1
      have l2 := cell_of_heap hb 2
      simp at l0 l1 l2
      by_cases hlt : i < m
      · obtain ⟨q, hq0, hqm⟩ : ∃ q : Nat, (i + tt) % m = q ∧ q < m := ⟨_, rfl, Nat.mod_lt _ hmp⟩
        have hq1 : ((i : Int) + (tt : Int)).tmod (m : Int) = q := by
          rw [Int.tmod_eq_emod_of_nonneg (by omega), ← hq0]; simp
        have hq2 : ((i : Int) + (tt : Int)) % (m : Int) = q := by rw [← hq0]; simp
        have hql : q < L.length := by rw [hm'.out]; exact hqm
        obtain ⟨g, hga, hgl, -, hc⟩ := hT.l.row.cell lhC_len (List.getElem?_eq_getElem hql)
        have hstep := turnL_step L tt i
        rw [hm'.out, hq0, show L.getD q zeroLh = L[q] by simp [List.getD, hql]] at hstep
        obtain ⟨y, hy⟩ : ∃ y, L[q] = y := ⟨_, rfl⟩
        rw [hy] at hc hstep
        obtain ⟨yx, ysa, ysc, yba, ybc⟩ := y
        have c0 := hc 0 _ (by decide) rfl
        have c1 := hc 1 _ (by decide) rfl
        rw [Nat.add_zero] at c0
        simp only at c0 c1
        have hrow := Lib.hid (show RowAt _ 35 2 a2 i cap2 (recs lhC (turnL L tt i)) by have := hT.m; unfold RecRow at this; rwa [turnL_len] at this)
        have hq3 := Lib.hid (show i + 1 ≤ maxLen by unfold maxLen; omega)
        have hq4 := Lib.hid (show (i + 1) * 48 ≤ 140737488355328 by omega)
        have hstep' := Lib.hid hstep
        have hnb := Lib.hid (show ¬ blk a2 = some w.heap.size from fun e => by
          rcases RowAt.form hrow.out with ⟨h1, _⟩ | ⟨g2, cur, h1, _, hh, _⟩
          · rw [h1] at e; cases e
          · rw [h1] at e
            have e0 : g2 = w.heap.size := by simpa [blk] using e
            rw [e0, hb] at hh
            injection hh with h3; injection h3 with _ h4 _; exact absurd h4 (by decide))
        subst hga
        clear hT hb hc hy hq0 hstep hql
        go_wp2_with (at_builtin; refine wpList_app _ rfl _ _ 28 rfl 35 i35 _ 2 48 Try.underlying28 hi35 ha0 ha1 ha2' rfl (by decide) a2 i cap2 (recs lhC (turnL L tt i)) rfl _ 1 1 [.slice ysa yx.sl.length ysc, .slice yba yx.se.length ybc] rfl ?_ (by exact hrow.out.keeps ((Keeps.refl Nil _).alloc _) (fun _ _ h => h)) (by exact src_rec (heap_alloc_new _ (.cells #[.slice ysa yx.sl.length ysc, .slice yba yx.se.length ybc] 35))) (fun h => by cases h) (by simp [Value.oneCell']) hq3.out hq4.out; intro a5 cap5 w5 hr5 hk5 hn5; have k5 := ((Keeps.refl (fun j => blk a2 = some j) _).alloc (.cells #[.slice ysa yx.sl.length ysc, .slice yba yx.se.length ybc] 35)).trans hk5; have hr5' := Lib.hid hr5; have k5' := Lib.hid k5; have hn5' := Lib.hid hn5; clear hr5 hk5 hn5 k5 c0 c1 l0 l1 l2 hq1 hq2)
        go_roundw
        case rel =>
          refine ⟨i + 1, a5, cap5, by omega, by go_num, rfl, ?_, k5'.out.heap hb'.out hnb.out⟩
          rw [hstep'.out]
          exact hT'.out.app (x := ⟨yx, ysa, ysc, yba, ybc⟩) (by rw [turnL_len]; exact hr5'.out) k5'.out (hn5'.out.elim .inl (fun e => .inr ⟨_, e.1, by simp⟩))
        case measure => simp [intOf]; omega
      · obtain rfl : i = m := by omega
        have hsL := Lib.hid (hSum.out _ a1 cap1 i _ hT.l.leaves hRx.out hlL.out (by omega))
        clear hT hb
        go_wp2_with fail
        refine (hsL.out).mono ?_
        rintro e wA (⟨h, _⟩ | ⟨x, sg, bg, ds, hx, rfl, hOA, hxl, hkA, hgA⟩)
        · cases h
        cases hx
        have hbA := hkA.heap hb'.out (fun h => h)
        have hTA := hT'.out.nil hkA
        have hOA' := Lib.hid hOA
        have hgA' := Lib.hid hgA
        have hTA' := Lib.hid hTA
        have hkA' := Lib.hid hkA
        have hbA' := Lib.hid hbA
        have l0 := cell_of_heap hbA 0
        have l1 := cell_of_heap hbA 1
        have l2 := cell_of_heap hbA 2
        simp at l0 l1 l2
        have hwA := lt_of_heap hbA
        clear hOA hgA hTA hkA hbA hxl hsL
        have kvA : Keeps Nil wA (wA.alloc (.cells #[.slice (some ⟨sg, 0, none⟩) n n, .slice (some ⟨bg, 0, none⟩) n n] 35)) := (Keeps.refl Nil wA).alloc _
        have hvA := heap_alloc_new wA (.cells #[.slice (some ⟨sg, 0, none⟩) n n, .slice (some ⟨bg, 0, none⟩) n n] 35)
        have kvA' := Lib.hid kvA
        have hvA' := Lib.hid hvA
        have hMm := Lib.hid (show ∀ x ∈ turnL L tt i, x ∈ L from fun x hx => turnL_mem (by rw [hm'.out]; exact hmp) hx)
        have hRM := Lib.hid (show ∀ x ∈ (turnL L tt i).map (·.x), Right S n x from fun x hx => by obtain ⟨h, hh, rfl⟩ := List.mem_map.1 hx; exact hR'.out h (hMm.out h hh))
        have hsM := Lib.hid (hSum.out _ a2 cap2 i _ ((hTA'.out.nil kvA).leaves hMm.out) hRM.out (by rw [List.length_map, turnL_len]) (by omega))
        clear kvA hvA
        go_wp2_with fail
        refine (hsM.out).mono ?_
        rintro e wB (⟨h, _⟩ | ⟨x, sg2, bg2, ds2, hx, rfl, hOB, hxl, hkB, hgB⟩)
        · cases h
        cases hx
        have hvB := hkB.heap hvA'.out (fun h => h)
        have hbB := hkB.heap (kvA'.out.heap hbA'.out (fun h => h)) (fun h => h)
        have hTB := (hTA'.out.nil kvA'.out).nil hkB
        have hOAB := (hOA'.out.nil kvA'.out).nil hkB
        have hll : tt < L.length := by rw [hm'.out]; exact htm
        obtain ⟨g, hga, hgl, -, hc⟩ := hTB.l.row.cell lhC_len (List.getElem?_eq_getElem hll)
        have hyL : L[tt] ∈ L := List.getElem_mem hll
        obtain ⟨y, hy⟩ : ∃ y, L[tt] = y := ⟨_, rfl⟩
        rw [hy] at hc hyL
        obtain ⟨yx, ysa, ysc, yba, ybc⟩ := y
        have hyq := Lib.hid (show L[tt]? = some ⟨yx, ysa, ysc, yba, ybc⟩ by rw [List.getElem?_eq_getElem hll, hy])
        have hyL' := Lib.hid hyL
        have c0 := hc 0 _ (by decide) rfl
        have c1 := hc 1 _ (by decide) rfl
        rw [Nat.add_zero] at c0
        simp only at c0 c1
        have hzB : wA.heap.size < wB.heap.size := lt_of_heap hvB
        have hrow := Lib.hid (show RowAt wB 35 2 a2 i cap2 (recs lhC (turnL L tt i)) by have := hTB.m; unfold RecRow at this; rwa [turnL_len] at this)
        have kvB := Lib.hid ((Keeps.refl Nil wB).alloc (.cells #[.slice (some ⟨sg2, 0, none⟩) n n, .slice (some ⟨bg2, 0, none⟩) n n] 35))
        have hvBB := Lib.hid (heap_alloc_new wB (.cells #[.slice (some ⟨sg2, 0, none⟩) n n, .slice (some ⟨bg2, 0, none⟩) n n] 35))
        have hvB' := Lib.hid hvB
        have hbB' := Lib.hid hbB
        have hTB' := Lib.hid hTB
        have hOAB' := Lib.hid hOAB
        have hOB' := Lib.hid hOB
        have hgB' := Lib.hid hgB
        have hq3 := Lib.hid (show i + 1 ≤ maxLen by unfold maxLen; omega)
        have hq4 := Lib.hid (show (i + 1) * 48 ≤ 140737488355328 by omega)
        have hnew0 := heap_alloc_new (wB.alloc (.cells #[.slice (some ⟨sg2, 0, none⟩) n n, .slice (some ⟨bg2, 0, none⟩) n n] 35)) (.cells #[.slice ysa yx.sl.length ysc, .slice yba yx.se.length ybc] 35)
        rw [heap_alloc_size] at hnew0
        have hnew := Lib.hid hnew0
        clear hnew0
        have ha2 := Lib.hid (show ∀ q, blk a2 = some q → q < wr.heap.size from fun q hq => RowAt.lt hT'.out.m hq)
        subst hga
        clear hvB hbB hTB hOAB hOB hgB hc hy hyL hkB hxl l0 l1 l2 hll
        go_wp2_with (at_builtin; refine wpList_app _ rfl _ _ 28 rfl 35 i35 _ 2 48 Try.underlying28 hi35 ha0 ha1 ha2' rfl (by decide) a2 i cap2 (recs lhC (turnL L tt i)) rfl _ 1 1 [.slice ysa yx.sl.length ysc, .slice yba yx.se.length ybc] rfl ?_ (by exact hrow.out.keeps (((Keeps.refl Nil wB).alloc _).alloc _) (fun _ _ h => h)) (by exact src_rec hnew.out) (fun h => by cases h) (by simp [Value.oneCell']) hq3.out hq4.out; intro a5 cap5 w7 hr5 hk5 hn5; have k5 := (((Keeps.refl (fun j => blk a2 = some j) wB).alloc (.cells #[.slice (some ⟨sg2, 0, none⟩) n n, .slice (some ⟨bg2, 0, none⟩) n n] 35)).alloc (.cells #[.slice ysa yx.sl.length ysc, .slice yba yx.se.length ybc] 35)).trans hk5; have hr5' := Lib.hid hr5; have k5' := Lib.hid k5; have hk5' := Lib.hid hk5; have hn5' := Lib.hid hn5; clear hr5 hk5 hn5 k5 c0 c1)
        have hT7 := Lib.hid (hTB'.out.app (x := ⟨yx, ysa, ysc, yba, ybc⟩) (by rw [turnL_len]; exact hr5'.out) k5'.out (hn5'.out.elim .inl (fun e => .inr ⟨_, e.1, by rw [heap_alloc_size, heap_alloc_size]; omega⟩)))
        have h5no : Hid (∀ q, lown sg bg ds q ∨ lown sg2 bg2 ds2 q ∨ q = wA.heap.size ∨ q = wB.heap.size → ¬ blk a5 = some q) := fun q hq e => by
          have s1 := hkA'.out.size
          have s2 := kvA'.out.size
          rw [heap_alloc_size] at s2
          have s3 : wr.heap.size ≤ q ∧ q < wB.heap.size + 1 := by
            rcases hq with h | h | rfl | rfl
            · exact ⟨hgA'.out q h, by have := hOAB'.out.lt h; omega⟩
            · have := hgB'.out q h; rw [heap_alloc_size] at this; have := hOB'.out.lt h; omega
            · omega
            · omega
          rcases hn5'.out with h | ⟨h, -⟩
          · have := ha2.out q (h ▸ e); omega
          · rw [h] at e; injection e with e; rw [heap_alloc_size, heap_alloc_size] at e; omega
        have h2no : Hid (∀ q, wr.heap.size ≤ q → ¬ blk a2 = some q) := fun q hq e => by have := ha2.out q e; omega
        have hno35 : Hid (∀ (W : World) (b : Option Addr) (m c : Nat) (xs : List Value), RowAt W 35 2 b m c xs → W.heap[w.heap.size]? = some (.cells #[.int .i64 S, .int .i64 n, .int .i64 1] 27) → ¬ blk b = some w.heap.size) := fun W b m c xs hr hb e => by
          rcases RowAt.form hr with ⟨h1, _⟩ | ⟨g2, cur, h1, _, hh, _⟩
          · rw [h1] at e; cases e
          · rw [h1] at e
            have e0 : g2 = w.heap.size := by simpa [blk] using e
            rw [e0, hb] at hh
            injection hh with h3; injection h3 with _ h4 _; exact absurd h4 (by decide)
        have hsA : wr.heap.size ≤ wA.heap.size := hkA'.out.size
        have hb7 := k5'.out.heap hbB'.out (hno35.out _ _ _ _ _ hrow.out hbB'.out)
        have hA7 := k5'.out.heap hvB'.out (h2no.out _ hsA)
        have hB7 := (((Keeps.refl (fun j => blk a2 = some j) (wB.alloc (.cells #[.slice (some ⟨sg2, 0, none⟩) n n, .slice (some ⟨bg2, 0, none⟩) n n] 35))).alloc (.cells #[.slice ysa yx.sl.length ysc, .slice yba yx.se.length ybc] 35)).trans hk5'.out).heap hvBB.out (h2no.out _ (by omega))
        have hOA7 := hOAB'.out.keeps k5'.out (fun k hk => h2no.out _ (hgA'.out k hk))
        have hOB7 := hOB'.out.keeps k5'.out (fun k hk => h2no.out _ (by have := hgB'.out k hk; rw [heap_alloc_size] at this; omega))
        have hno5 := Lib.hid (hno35.out _ _ _ _ _ hr5'.out hb7)
        obtain ⟨g', hga', hgl', -, hc'⟩ := hT7.out.l.row.cell lhC_len hyq.out
        cases hga'
        have c0 := hc' 0 _ (by decide) rfl
        have c1 := hc' 1 _ (by decide) rfl
        rw [Nat.add_zero] at c0
        simp only at c0 c1
        have l0 := cell_of_heap hb7 0
        have l1 := cell_of_heap hb7 1
        have l2 := cell_of_heap hb7 2
        simp at l0 l1 l2
        have hLC := Lib.hid (show ∀ (W : World), Keeps (fun j => blk a5 = some j) w7 W → W.cell? ⟨w.heap.size, 0, none⟩ = some (.int .i64 S) ∧ W.cell? ⟨w.heap.size, 1, none⟩ = some (.int .i64 n) ∧ W.cell? ⟨w.heap.size, 2, none⟩ = some (.int .i64 1) ∧ W.cell? ⟨g, tt * 2, none⟩ = some (.slice ysa yx.sl.length ysc) ∧ W.cell? ⟨g, tt * 2 + 1, none⟩ = some (.slice yba yx.se.length ybc) from fun W hk => ⟨hk.cell l0 hno5.out, hk.cell l1 hno5.out, hk.cell l2 hno5.out, hk.cell c0 (hT7.out.no _ (.inr rfl)), hk.cell c1 (hT7.out.no _ (.inr rfl))⟩)
        have hS7 := Lib.hid (show ∀ (W : World), Keeps (fun j => blk a5 = some j) w7 W → OwnLf W S sg bg ds (sumL S n (L.map (·.x))) ∧ OwnLf W S sg2 bg2 ds2 (sumL S n ((turnL L tt i).map (·.x))) ∧ W.heap[wA.heap.size]? = some (.cells #[.slice (some ⟨sg, 0, none⟩) n n, .slice (some ⟨bg, 0, none⟩) n n] 35) ∧ W.heap[wB.heap.size]? = some (.cells #[.slice (some ⟨sg2, 0, none⟩) n n, .slice (some ⟨bg2, 0, none⟩) n n] 35) from fun W hk => ⟨hOA7.keeps hk (fun k h => h5no.out k (.inl h)), hOB7.keeps hk (fun k h => h5no.out k (.inr (.inl h))), hk.heap hA7 (h5no.out _ (.inr (.inr (.inl rfl)))), hk.heap hB7 (h5no.out _ (.inr (.inr (.inr rfl))))⟩)
        have h8 : Hid (∀ (W w8 : World) (a6 : Option Addr) (cap6 : Nat), Keeps Nil w7 W → RowAt w8 35 2 a6 (i + 1 + 1) cap6 (recs lhC (turnL L tt i) ++ lhC ⟨yx, ysa, ysc, yba, ybc⟩ ++ lhC ⟨yx, ysa, ysc, yba, ybc⟩) → Keeps (fun k => blk a5 = some k) W w8 → (blk a6 = blk a5 ∨ blk a6 = some W.heap.size ∧ W.heap.size < w8.heap.size) → TwoL w w8 (some ⟨g, 0, none⟩) cap1 L a6 cap6 (turnL L tt i ++ [⟨yx, ysa, ysc, yba, ybc⟩] ++ [⟨yx, ysa, ysc, yba, ybc⟩]) Z ∧ Keeps (fun k => blk a5 = some k) w7 w8) := fun W w8 a6 cap6 hkn hr hk hn => ⟨(hT7.out.nil hkn).app (by rw [recs_app, recs_one, List.length_append, turnL_len]; exact hr) hk (hn.elim .inl (fun e => .inr ⟨_, e.1, Nat.le_refl _⟩)), (hkn.mono (fun _ h => h.elim)).trans hk⟩
        have hMM := Lib.hid (show ∀ x ∈ turnL L tt i ++ [(⟨yx, ysa, ysc, yba, ybc⟩ : LH)] ++ [(⟨yx, ysa, ysc, yba, ybc⟩ : LH)], x ∈ L from fun x hx => by
          rw [List.mem_append, List.mem_append, List.mem_singleton] at hx
          rcases hx with (h | h) | h
          · exact hMm.out x h
          · rw [h]; exact hyL'.out
          · rw [h]; exact hyL'.out)
        have hRMM := Lib.hid (show ∀ x ∈ (turnL L tt i ++ [(⟨yx, ysa, ysc, yba, ybc⟩ : LH)] ++ [(⟨yx, ysa, ysc, yba, ybc⟩ : LH)]).map (·.x), Right S n x from fun x hx => by obtain ⟨h, hh, rfl⟩ := List.mem_map.1 hx; exact hR'.out h (hMM.out h hh))
        have hlM := Lib.hid (show ((turnL L tt i ++ [(⟨yx, ysa, ysc, yba, ybc⟩ : LH)] ++ [(⟨yx, ysa, ysc, yba, ybc⟩ : LH)]).map (·.x)).length = i + 1 + 1 by simp [turnL_len])
        have hq5 := Lib.hid (show i + 1 + 1 ≤ maxLen by unfold maxLen; omega)
        have hq6 := Lib.hid (show (i + 1 + 1) * 48 ≤ 140737488355328 by omega)
        have hi12 : i + 1 + 1 ≤ 1000 := by omega
        obtain ⟨X, hX⟩ : ∃ X, sumL S n (L.map (·.x)) = X := ⟨_, rfl⟩
        have RX : Right S n X := hX ▸ sumL_right hRx.out
        have hX2 : sumL S n ((turnL L tt i).map (·.x)) = X := by
          have e := turnL_all (L := L) (t := tt) (by rw [hm'.out]; exact htm)
          rw [hm'.out] at e
          rw [e, List.map_append, sumL_turn (fun x hx => hRx.out x ?_) (fun x hx => hRx.out x ?_), ← List.map_append, List.take_append_drop, hX]
          · rw [List.mem_map] at hx ⊢; obtain ⟨h, hh, e⟩ := hx; exact ⟨h, List.mem_of_mem_drop hh, e⟩
          · rw [List.mem_map] at hx ⊢; obtain ⟨h, hh, e⟩ := hx; exact ⟨h, List.mem_of_mem_take hh, e⟩
        have hX3 : sumL S n ((turnL L tt i ++ [(⟨yx, ysa, ysc, yba, ybc⟩ : LH)] ++ [(⟨yx, ysa, ysc, yba, ybc⟩ : LH)]).map (·.x)) = X := by
          rw [List.map_append, List.map_append]
          exact (sumL_twice (fun x hx => hRMM.out x (by rw [List.map_append, List.map_append]; simp only [List.mem_append]; exact .inl (.inl hx))) (hRMM.out yx (by simp))).trans hX2
        have hF := Lib.hid (show ∀ (W9 W10 : World) (b sg3 bg3 : Nat) (ds3 : List Nat), w7.heap.size ≤ b → Keeps (fun j => blk a5 = some j) w7 W9 → OwnLf W9 S sg3 bg3 ds3 (sumL S n ((turnL L tt i ++ [(⟨yx, ysa, ysc, yba, ybc⟩ : LH)] ++ [(⟨yx, ysa, ysc, yba, ybc⟩ : LH)]).map (·.x))) → (∀ k, lown sg3 bg3 ds3 k → k ≠ b) → Keeps (· = b) W9 W10 → OwnLf W10 S sg bg ds X ∧ OwnLf W10 S sg2 bg2 ds2 X ∧ OwnLf W10 S sg3 bg3 ds3 X ∧ W10.heap[wA.heap.size]? = some (.cells #[.slice (some ⟨sg, 0, none⟩) n n, .slice (some ⟨bg, 0, none⟩) n n] 35) ∧ W10.heap[wB.heap.size]? = some (.cells #[.slice (some ⟨sg2, 0, none⟩) n n, .slice (some ⟨bg2, 0, none⟩) n n] 35) ∧ Keeps Nil w W10 from fun W9 W10 b sg3 bg3 ds3 hb hk hC hne hk' => by
          obtain ⟨h1, h2, h3, h4⟩ := hS7.out W9 hk
          have hlt : ∀ k, k < w7.heap.size → k ≠ b := fun k hk => by omega
          rw [hX] at h1
          rw [hX2] at h2
          rw [hX3] at hC
          exact ⟨h1.keeps hk' (fun k hk => hlt k (hOA7.lt hk)), h2.keeps hk' (fun k hk => hlt k (hOB7.lt hk)), hC.keeps hk' hne, hk'.heap h3 (hlt _ (lt_of_heap hA7)), hk'.heap h4 (hlt _ (lt_of_heap hB7)), (hT7.out.k.trans' hk (fun j hj => .inr (hT7.out.ge j hj))).trans' hk' (fun j hj => .inr (by rw [hj]; have := hT7.out.k.size; omega))⟩)
        have hSame := Lib.hid (show ∀ (W : World) (s1 b1 : Nat) (d1 : List Nat) (s2 b2 : Nat) (d2 : List Nat), OwnLf W S s1 b1 d1 X → OwnLf W S s2 b2 d2 X → Calls Try.prog 16 #[.agg #[.slice (some ⟨s1, 0, none⟩) n n, .slice (some ⟨b1, 0, none⟩) n n], .agg #[.slice (some ⟨s2, 0, none⟩) n n, .slice (some ⟨b2, 0, none⟩) n n]] W (fun e w' => e = .returned (.bool true) ∧ Keeps Nil W w') from fun W s1 b1 d1 s2 b2 d2 h1 h2 => by
          have := same16 (sc := n) (bc := n) (sd := n) (bd := n) h1.at h2.at (RX.ok (by omega) (by omega))
          rw [RX.l1, RX.l2] at this
          exact this)
        clear hX hX2 hX3 RX
        clear hA7 hB7 hb7 hOA7 hOB7 hc' hTB' hOAB' hOB' hvBB hvB' hbB' hnew hrow kvB hsM hRM hMm h2no ha2
        have hZ := Lib.hid (show ∀ (W w8 : World) (n : Nat), Keeps (fun j => blk a5 = some j) W w8 → W.heap[n]? = some (.cells #[.slice none 0 0, .slice none 0 0] 35) → w7.heap.size ≤ n → w8.heap[n]? = some (.cells #[.slice none 0 0, .slice none 0 0] 35) from fun W w8 n hk hh hn => hk.heap hh (fun e => by have := RowAt.lt hT7.out.m e; omega))
        go_region_held3 (fun W => W.cell? ⟨w.heap.size, 0, none⟩ = some (.int .i64 S) ∧ W.cell? ⟨w.heap.size, 1, none⟩ = some (.int .i64 n) ∧ W.cell? ⟨w.heap.size, 2, none⟩ = some (.int .i64 1) ∧ W.cell? ⟨g, tt * 2, none⟩ = some (.slice ysa yx.sl.length ysc) ∧ W.cell? ⟨g, tt * 2 + 1, none⟩ = some (.slice yba yx.se.length ybc)) ((refine hLC.out _ ?_; (repeat (first | exact Keeps.refl _ _ | exact hK9'.out | exact hK8'.out | with_reducible refine Keeps.drew ?_ | with_reducible refine Keeps.alloc ?_ _ | refine Keeps.setCell (p := ⟨_, _, none⟩) ?_ (.inr (by simp only; omega)) _)))) (first
          | (refine step_app _ (by rfl) _ _ 28 (by rfl) 35 i35 (.agg #[.slice none 0 0, .slice none 0 0]) 2 48 Try.underlying28 hi35 ha0 ha1 ha2' rfl (by decide) a5 (i + 1) cap5 _ (by rfl) _ 1 1 [.slice ysa yx.sl.length ysc, .slice yba yx.se.length ybc] (by rfl) (hr5'.out.keeps (by repeat (first | exact Keeps.refl Nil _ | with_reducible refine Keeps.drew ?_ | with_reducible refine Keeps.alloc ?_ _)) (fun _ _ h => h)) (src_rec (by first | exact heap_at rfl | exact heap_at (heap_alloc_size _ _) | exact heap_at2 rfl)) (fun h => by cases h) (by simp [Value.oneCell']) hq5.out hq6.out ?_; intro a6 cap6 w8 hr8 hk8 hn8; obtain ⟨hT8, hK8⟩ := h8.out _ w8 a6 cap6 (by repeat (first | exact Keeps.refl Nil _ | with_reducible refine Keeps.drew ?_ | with_reducible refine Keeps.alloc ?_ _)) hr8 hk8 hn8; (try have hz8 := Lib.hid (hZ.out _ w8 w7.heap.size hk8 (heap_at2 rfl) (Nat.le_refl _))); (try have hz8 := Lib.hid (hZ.out _ w8 (w7.heap.size + 1) hk8 (heap_at (heap_alloc_size _ _)) (Nat.le_succ _))); have hT8' := Lib.hid hT8; have hK8' := Lib.hid hK8; have hs8 := hK8.size; obtain ⟨q0, q1, q2, q3, q4⟩ := hLC.out w8 hK8; clear hr8 hk8 hn8 hT8 hK8)
          | (go_at_call 15; refine (hSum.out _ a6 cap6 (i + 1 + 1) _ ((hT8'.out.nil (by repeat (first | exact Keeps.refl Nil _ | with_reducible refine Keeps.drew ?_ | with_reducible refine Keeps.alloc ?_ _))).leaves hMM.out) hRMM.out hlM.out hi12).mono ?_; rintro e w9 (⟨h, _⟩ | ⟨x, sg3, bg3, ds3, hx, rfl, hOC, hxl, hk9, hg9⟩); (cases h); cases hx; have hk9n := hk9.mono (T := fun j => blk a5 = some j) (fun _ h => h.elim); have hK9 : Keeps (fun j => blk a5 = some j) w7 w9 := (by first | exact hK8'.out.trans hk9n | exact (hK8'.out.alloc _).trans hk9n | exact (hK8'.out.alloc _).drew.trans hk9n); clear hk9n; have hK9' := Lib.hid hK9; have hs9 := hK9.size; obtain ⟨r0, r1, r2, r3, r4⟩ := hLC.out w9 hK9; have hOC' := Lib.hid hOC; have hg9' := Lib.hid hg9; (first | (have hz9 := hk9.heap (o := .cells #[.slice none 0 0, .slice none 0 0] 35) hz8.out (fun h => h); have z0 := cell_of_heap hz9 0; have z1 := cell_of_heap hz9 1; simp at z0 z1; have zf0 := frozen_of_heap hz9 0; have zf1 := frozen_of_heap hz9 1; have zl := lt_of_heap hz9; have hz9' := Lib.hid hz9; clear hz9) | (have hz9 := hk9.heap (o := .cells #[.slice none 0 0, .slice none 0 0] 35) (heap_at0 rfl) (fun h => h); have z0 := cell_of_heap hz9 0; have z1 := cell_of_heap hz9 1; simp at z0 z1; have zf0 := frozen_of_heap hz9 0; have zf1 := frozen_of_heap hz9 1; have zl := lt_of_heap hz9; have hz9' := Lib.hid hz9; clear hz9) | skip); clear hOC hg9 hK9 hk9 hxl))
        all_goals
          clear r0 r1 r2 r3 r4 q0 q1 q2 q3 q4
          first
          | (have q0' : w9.cell? ⟨w8.heap.size, 0, none⟩ = some (.slice none 0 0) := z0
             have hc : ((w9.setCell ⟨w8.heap.size, 0, none⟩ (.slice (some ⟨sg3, 0, none⟩) n n)).setCell ⟨w8.heap.size, 1, none⟩ (.slice (some ⟨bg3, 0, none⟩) n n)).heap[w8.heap.size]? = some (.cells #[(.slice (some ⟨sg3, 0, none⟩) n n), (.slice (some ⟨bg3, 0, none⟩) n n)] 35) := heap_setCell_same (heap_setCell_same hz9'.out 0 (.slice (some ⟨sg3, 0, none⟩) n n)) 1 (.slice (some ⟨bg3, 0, none⟩) n n)
             have hz := hF.out w9 ((w9.setCell ⟨w8.heap.size, 0, none⟩ (.slice (some ⟨sg3, 0, none⟩) n n)).setCell ⟨w8.heap.size, 1, none⟩ (.slice (some ⟨bg3, 0, none⟩) n n)) (w8.heap.size) _ _ _ (by omega) hK9'.out hOC'.out (by intro k hk e; have := hg9'.out k hk; (try rw [heap_alloc_size] at this); (try have := lt_of_heap hz8.out); omega) (((Keeps.refl (· = w8.heap.size) w9).setCell (p := ⟨w8.heap.size, 0, none⟩) (.inl rfl) (.slice (some ⟨sg3, 0, none⟩) n n)).setCell (p := ⟨w8.heap.size, 1, none⟩) (.inl rfl) (.slice (some ⟨bg3, 0, none⟩) n n))
             generalize ((w9.setCell ⟨w8.heap.size, 0, none⟩ (.slice (some ⟨sg3, 0, none⟩) n n)).setCell ⟨w8.heap.size, 1, none⟩ (.slice (some ⟨bg3, 0, none⟩) n n)) = W10 at hz hc ⊢)
          | (have q0' : w9.cell? ⟨w7.heap.size + 1, 0, none⟩ = some (.slice none 0 0) := z0
             have hc : ((w9.setCell ⟨w7.heap.size + 1, 0, none⟩ (.slice (some ⟨sg3, 0, none⟩) n n)).setCell ⟨w7.heap.size + 1, 1, none⟩ (.slice (some ⟨bg3, 0, none⟩) n n)).heap[w7.heap.size + 1]? = some (.cells #[(.slice (some ⟨sg3, 0, none⟩) n n), (.slice (some ⟨bg3, 0, none⟩) n n)] 35) := heap_setCell_same (heap_setCell_same hz9'.out 0 (.slice (some ⟨sg3, 0, none⟩) n n)) 1 (.slice (some ⟨bg3, 0, none⟩) n n)
             have hz := hF.out w9 ((w9.setCell ⟨w7.heap.size + 1, 0, none⟩ (.slice (some ⟨sg3, 0, none⟩) n n)).setCell ⟨w7.heap.size + 1, 1, none⟩ (.slice (some ⟨bg3, 0, none⟩) n n)) (w7.heap.size + 1) _ _ _ (by omega) hK9'.out hOC'.out (by intro k hk e; have := hg9'.out k hk; (try rw [heap_alloc_size] at this); (try have := lt_of_heap hz8.out); omega) (((Keeps.refl (· = w7.heap.size + 1) w9).setCell (p := ⟨w7.heap.size + 1, 0, none⟩) (.inl rfl) (.slice (some ⟨sg3, 0, none⟩) n n)).setCell (p := ⟨w7.heap.size + 1, 1, none⟩) (.inl rfl) (.slice (some ⟨bg3, 0, none⟩) n n))
             generalize ((w9.setCell ⟨w7.heap.size + 1, 0, none⟩ (.slice (some ⟨sg3, 0, none⟩) n n)).setCell ⟨w7.heap.size + 1, 1, none⟩ (.slice (some ⟨bg3, 0, none⟩) n n)) = W10 at hz hc ⊢)
          | (have q0' : w9.cell? ⟨w7.heap.size, 0, none⟩ = some (.slice none 0 0) := z0
             have hc : ((w9.setCell ⟨w7.heap.size, 0, none⟩ (.slice (some ⟨sg3, 0, none⟩) n n)).setCell ⟨w7.heap.size, 1, none⟩ (.slice (some ⟨bg3, 0, none⟩) n n)).heap[w7.heap.size]? = some (.cells #[(.slice (some ⟨sg3, 0, none⟩) n n), (.slice (some ⟨bg3, 0, none⟩) n n)] 35) := heap_setCell_same (heap_setCell_same hz9'.out 0 (.slice (some ⟨sg3, 0, none⟩) n n)) 1 (.slice (some ⟨bg3, 0, none⟩) n n)
             have hz := hF.out w9 ((w9.setCell ⟨w7.heap.size, 0, none⟩ (.slice (some ⟨sg3, 0, none⟩) n n)).setCell ⟨w7.heap.size, 1, none⟩ (.slice (some ⟨bg3, 0, none⟩) n n)) (w7.heap.size) _ _ _ (by omega) hK9'.out hOC'.out (by intro k hk e; have := hg9'.out k hk; (try rw [heap_alloc_size] at this); (try have := lt_of_heap hz8.out); omega) (((Keeps.refl (· = w7.heap.size) w9).setCell (p := ⟨w7.heap.size, 0, none⟩) (.inl rfl) (.slice (some ⟨sg3, 0, none⟩) n n)).setCell (p := ⟨w7.heap.size, 1, none⟩) (.inl rfl) (.slice (some ⟨bg3, 0, none⟩) n n))
             generalize ((w9.setCell ⟨w7.heap.size, 0, none⟩ (.slice (some ⟨sg3, 0, none⟩) n n)).setCell ⟨w7.heap.size, 1, none⟩ (.slice (some ⟨bg3, 0, none⟩) n n)) = W10 at hz hc ⊢)
          | (have hz := hF.out w9 (w9.alloc (.cells #[(.slice (some ⟨sg3, 0, none⟩) n n), (.slice (some ⟨bg3, 0, none⟩) n n)] 35)) w9.heap.size _ _ _ hs9 hK9'.out hOC'.out (fun k hk e => by have := hOC'.out.lt hk; omega) ((Keeps.refl _ w9).alloc _)
             have hc := heap_alloc_new w9 (.cells #[(.slice (some ⟨sg3, 0, none⟩) n n), (.slice (some ⟨bg3, 0, none⟩) n n)] 35)
             generalize w9.alloc (.cells #[(.slice (some ⟨sg3, 0, none⟩) n n), (.slice (some ⟨bg3, 0, none⟩) n n)] 35) = W10 at hz hc ⊢)
        all_goals
          obtain ⟨f1, f2, f3, hvA, hvB, hk10⟩ := hz
          have v0 := cell_of_heap hvA 0
          have v1 := cell_of_heap hvA 1
          have v2 := cell_of_heap hvB 0
          have v3 := cell_of_heap hvB 1
          simp at v0 v1 v2 v3
          have f1' := Lib.hid f1
          have f2' := Lib.hid f2
          have f3' := Lib.hid f3
          have hvA' := Lib.hid hvA
          have hc' := Lib.hid hc
          have hk10' := Lib.hid hk10
          clear f1 f2 f3 hvA hvB hk10 hc
          go_wp2_with fail
          refine (hSame.out _ _ _ _ _ _ _ f1'.out f2'.out).mono ?_
          rintro e W11 ⟨rfl, hk11⟩
          have hvA := hk11.heap hvA'.out (fun h => h)
          have hvC := hk11.heap hc'.out (fun h => h)
          have v0 := cell_of_heap hvA 0
          have v1 := cell_of_heap hvA 1
          have v4 := cell_of_heap hvC 0
          have v5 := cell_of_heap hvC 1
          simp at v0 v1 v4 v5
          have hk11' := Lib.hid hk11
          clear hvA hvC hk11
          go_wp2_with fail
          refine (hSame.out _ _ _ _ _ _ _ (f1'.out.nil hk11'.out) (f3'.out.nil hk11'.out)).mono ?_
          rintro e W12 ⟨rfl, hk12⟩
          go_wp2_with fail
          go_ret
          exact ⟨rfl, (hk10'.out.trans hk11'.out).trans hk12⟩
end Go.Proofs.Ytdgcbjkopmlegaa
