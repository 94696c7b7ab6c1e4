/- slices.DeleteFunc, All -/
import Derived.Test.YtmdgbcbnciaikaaE
namespace Go.Proofs.Ytmdgbcbnciaikaa
open Go.RowKit

attribute [local go_sem ↓] Go.wp_at_zero Go.wp_at_succ

/-- the row R midway: i places kept of the first j of T -/
structure Mid (T R : List Spc) (i j : Nat) : Prop where
  len : R.length = T.length
  lt : i < j
  le : j ≤ T.length
  low : R.take i = spAll (T.take j)
  high : R.drop j = T.drop j
theorem Mid.start {T : List Spc} {k : Nat} (h1 : T[k]? = some sp0) (h2 : spAll (T.take k) = T.take k) : Mid T T k (k + 1) :=
  ⟨rfl, by omega, (List.getElem?_eq_some_iff.1 h1).1, by rw [spAll_take h1, if_pos rfl, h2], rfl⟩
theorem Mid.get {T R : List Spc} {i j : Nat} (h : Mid T R i j) {s : Spc} (hs : T[j]? = some s) : R[j]? = some s := by
  have := congrArg (fun l => l[0]?) h.high
  simp only [List.getElem?_drop, Nat.add_zero] at this
  rw [this, hs]
theorem Mid.skip {T R : List Spc} {i j : Nat} (h : Mid T R i j) (hs : T[j]? = some sp0) : Mid T R i (j + 1) := by
  refine ⟨h.len, by have := h.lt; omega, (List.getElem?_eq_some_iff.1 hs).1, by rw [spAll_take hs, if_pos rfl]; exact h.low, ?_⟩
  have := congrArg (List.drop 1) h.high
  rw [List.drop_drop, List.drop_drop] at this
  exact this
theorem Mid.put {T R : List Spc} {i j : Nat} (h : Mid T R i j) {s : Spc} (hs : T[j]? = some s) (hne : s ≠ sp0) : Mid T (R.set i s) (i + 1) (j + 1) := by
  have hj := (List.getElem?_eq_some_iff.1 hs).1
  have hlt := h.lt
  have hl := h.len
  refine ⟨by rw [List.length_set]; exact hl, by omega, hj, ?_, ?_⟩
  · rw [spAll_take hs, if_neg hne, ← h.low]
    rw [List.take_succ_eq_append_getElem (by rw [List.length_set]; omega)]
    rw [List.take_set_of_le (Nat.le_refl _)]
    simp
  · have := congrArg (List.drop 1) h.high
    rw [List.drop_drop, List.drop_drop] at this
    rw [List.drop_set_of_lt (by omega)]
    exact this

theorem zeroCells3 : ∀ n, ∃ vs, (Builtin.zeroCells #[Value.int .i64 0, .int .i64 0, .int .i64 0] n).toList = vs ∧ vs.length = n * 3 ∧ ∀ v ∈ vs, v.oneCell' = true := by
  intro n
  refine ⟨_, rfl, by simp [Builtin.zeroCells], fun v hv => ?_⟩
  simp only [Builtin.zeroCells] at hv
  obtain ⟨i, hi, rfl⟩ := List.mem_iff_getElem.1 hv
  have h3 : i % 3 = 0 ∨ i % 3 = 1 ∨ i % 3 = 2 := by omega
  rcases h3 with h | h | h <;> simp [h, Value.oneCell']
theorem clear_run {w : World} {g cap i c : Nat} {L : List Spc} (h : SpRow w (some ⟨g, 0, none⟩) cap L) (hi : i < L.length) :
    ∃ vs, ∀ ty, (Builtin.clear_ #[34] ty #[.slice (some ⟨g, i * 3, none⟩) (L.length - i) c]).run Try.prog w = .ok (.tuple #[]) (w.setCells g (i * 3) vs) := by
  obtain ⟨vs, h1, h2, h3⟩ := zeroCells3 (L.length - i)
  refine ⟨vs, fun ty => ?_⟩
  have hcell : ∀ j, j < vs.length → (w.cell? ⟨g, i * 3 + j, none⟩).isSome = true := fun j hj => by
    have hq : i + j / 3 < L.length := by omega
    obtain ⟨g', hg, _, _, hc⟩ := RecRow.cell h spC_len (List.getElem?_eq_getElem hq)
    cases hg
    have hv : j % 3 < (spC L[i + j / 3]).length := by rw [spC_len]; omega
    have := hc (j % 3) _ (by omega) (List.getElem?_eq_getElem hv)
    rw [show (i + j / 3) * 3 + j % 3 = i * 3 + j by omega] at this
    rw [this]; rfl
  have hfr : ∀ j, j < vs.length → w.frozen? ⟨g, i * 3 + j, none⟩ = false := fun j hj => by
    obtain ⟨g', hg, _, hf, _⟩ := RecRow.cell h spC_len (List.getElem?_eq_getElem hi)
    cases hg
    exact hf _
  have hst := run_storeCells_cells (P := Try.prog) g (i * 3) vs 0 w (by simpa using hcell) (by simpa using hfr) h3
  simp only [Nat.add_zero] at hst
  obtain ⟨m, hm⟩ : ∃ m, L.length - i = m + 1 := ⟨L.length - i - 1, by omega⟩
  rw [hm] at h1 ⊢
  have hz : (Value.agg #[Value.int .i64 0, .int .i64 0, .int .i64 0]).cells = #[Value.int .i64 0, .int .i64 0, .int .i64 0] := rfl
  simp [Builtin.clear_, run_underlying Try.underlying34, Try.zeroValue30, hz, h1, hst]

set_option maxHeartbeats 8000000 in
theorem delfunc29 {w : World} {g cap : Nat} {T : List Spc} (h : SpRow w (some ⟨g, 0, none⟩) cap T) (hlen : T.length ≤ 1000000) :
    Calls Try.prog 29 #[.slice (some ⟨g, 0, none⟩) T.length cap, .func (.func 31) #[] #[]] w fun e w' => e = .returned (.slice (some ⟨g, 0, none⟩) (spAll T).length cap) ∧ SpRow w' (some ⟨g, 0, none⟩) cap (spAll T) ∧ Keeps (· = g) w w' := by
  have h' := Lib.hid h
  have hX := Lib.hid (index38 h hlen)
  have hcap := RecRow.cap_le h
  have hgw : g < w.heap.size := RowAt.lt h rfl
  rcases idx0_all T 0 with ⟨h1, h2⟩ | ⟨k, h1, h2, h3⟩
  · rw [h2]
    rw [h1] at hX
    obtain ⟨n, hn⟩ : ∃ n, T.length = n := ⟨_, rfl⟩
    rw [hn] at hX ⊢
    clear h h1 h2 hn hlen
    go_enter Try.func29, Try.ntmps29
    go_wp2_with fail
    refine (hX.out).mono ?_
    rintro e w1 ⟨rfl, hk⟩
    have hk' := Lib.hid hk
    clear hk
    go_wp2_with fail
    go_ret
    exact ⟨rfl, h'.out.keeps hk'.out (fun _ _ h => h), hk'.out.mono (fun _ h => h.elim)⟩
  · have hM := Lib.hid (Mid.start h2 h3)
    rw [h1] at hX
    rw [Nat.zero_add] at hX
    have hkl := (List.getElem?_eq_some_iff.1 h2).1
    obtain ⟨n, hn⟩ : ∃ n, T.length = n := ⟨_, rfl⟩
    have hn' := Lib.hid hn
    rw [hn] at hX hkl hcap hlen ⊢
    have g0 : ((k : Int) == -1) = false := beq_eq_false_iff_ne.2 (by omega)
    obtain ⟨m, hm⟩ : ∃ m, (spAll T).length = m := ⟨_, rfl⟩
    have hm' := Lib.hid hm
    rw [hm]
    clear h h1 h2 h3 hn hm
    go_enter Try.func29, Try.ntmps29
    go_wp2_with fail
    refine (hX.out).mono ?_
    rintro e w1 ⟨rfl, hk⟩
    have hk' := Lib.hid hk
    clear hk hX
    go_wp2_with fail
    go_loopw [5, 6, 7] (fun ci cj _ wx => ∃ (i j : Nat) (R : List Spc), ci = .int .i64 i ∧ cj = .int .i64 j ∧ Mid T R i j ∧ SpRow wx (some ⟨g, 0, none⟩) cap R ∧ Keeps (· = g) w wx) (fun _ c _ _ => n - (intOf c).toNat)
    case atStart => exact ⟨k, k + 1, T, rfl, by go_num, hM.out, h'.out.keeps hk'.out (fun _ _ h => h), hk'.out.mono (fun _ h => h.elim)⟩
    case round =>
      obtain ⟨i, j, R, rfl, rfl, hM, hR, hK⟩ := hrel
      have hM' := Lib.hid hM
      have hR' := Lib.hid hR
      have hK' := Lib.hid hK
      have hRl : R.length = n := by rw [hM.len]; exact hn'.out
      have hRl' := Lib.hid hRl
      have hij := hM.lt
      have hgx : g < wr.heap.size := RowAt.lt hR rfl
      by_cases hlt : j < n
      · obtain ⟨s, hs⟩ : ∃ s, T[j]? = some s := ⟨_, List.getElem?_eq_getElem (by rw [hn'.out]; exact hlt)⟩
        obtain ⟨c0, c1, c2⟩ := SpRow.cells hR (hM.get hs)
        have hs' := Lib.hid hs
        have hE := Lib.hid (fun W => empty31 s W)
        have p0 : (0 : Int) ≤ (j : Int) := by omega
        have p1 : (j : Int) < (n : Int) := by omega
        have p2 : (0 : Int) ≤ (i : Int) := by omega
        have p3 : (i : Int) < (n : Int) := by omega
        have p4 : ¬ g = wr.heap.size := by omega
        have p5 : ¬ wr.heap.size = g := by omega
        by_cases h0 : s = sp0
        · subst h0
          rw [decide_eq_true rfl] at hE
          simp only [spV] at hE
          clear hM hR hK hRl hs hij hgx
          go_wp2_with fail
          refine (hE.out _).mono ?_
          rintro e w2 ⟨rfl, hk2⟩
          have hk2' := Lib.hid hk2
          clear hk2
          go_wp2_with fail
          go_roundw
          case rel => exact ⟨i, j + 1, R, rfl, by go_num, hM'.out.skip hs'.out, hR'.out.keeps (((Keeps.refl Nil wr).alloc _).trans hk2'.out) (fun _ _ h => h), hK'.out.trans ((((Keeps.refl Nil wr).alloc _).trans hk2'.out).mono (fun _ h => h.elim))⟩
          case measure => simp [intOf]; omega
        · rw [decide_eq_false h0] at hE
          simp only [spV] at hE
          obtain ⟨so, hso⟩ : ∃ so, R[i]? = some so := ⟨_, List.getElem?_eq_getElem (by omega)⟩
          have hso' := Lib.hid hso
          have h0' := Lib.hid h0
          obtain ⟨a, b, c⟩ := s
          simp only at c0 c1 c2 hE
          clear hM hK hRl hs hij h0 hso
          go_wp2_with fail
          refine (hE.out _).mono ?_
          rintro e w2 ⟨rfl, hk2⟩
          have hk2' := Lib.hid hk2
          have hR2 := RecRow.keeps hR'.out (((Keeps.refl Nil wr).alloc _).trans hk2) (fun _ _ h => h)
          have hR2' := Lib.hid hR2
          obtain ⟨t0, t1, t2⟩ := SpRow.cells hR2 hso'.out
          obtain ⟨_, hge, _, hf, _⟩ := RecRow.cell hR2 spC_len hso'.out
          cases hge
          have u0 := hf (i * 3)
          have u1 := hf (i * 3 + 1)
          have u2 := hf (i * 3 + 2)
          obtain ⟨d0, d1, d2⟩ : w2.cell? ⟨wr.heap.size, 0, none⟩ = some (.int .i64 a) ∧ w2.cell? ⟨wr.heap.size, 1, none⟩ = some (.int .i64 b) ∧ w2.cell? ⟨wr.heap.size, 2, none⟩ = some (.int .i64 c) := by
            have hh := hk2.heap (heap_alloc_new _ _) (fun h => h)
            exact ⟨cell_of_heap hh 0, cell_of_heap hh 1, cell_of_heap hh 2⟩
          clear hk2 hR2 hR hgx hf
          go_wp2_with fail
          go_roundw
          case rel => exact ⟨i + 1, j + 1, R.set i ⟨a, b, c⟩, by go_num, by go_num, hM'.out.put hs'.out h0'.out, SpRow.set hR2'.out hso'.out ⟨a, b, c⟩, (hK'.out.trans ((((Keeps.refl Nil wr).alloc _).trans hk2'.out).mono (fun _ h => h.elim))).set3 (.inl rfl) _ _ _ _ _ _⟩
          case measure => simp [intOf]; omega
      · have hjn : j = n := by have := hM.le; rw [hn'.out] at this; omega
        obtain ⟨vs, hcl⟩ := clear_run (i := i) (c := cap - i) hR (by omega)
        rw [hRl] at hcl
        have hq1 : (i : Int) ≤ (n : Int) := by omega
        have hq2 : ¬ cap = i := by omega
        have hq3 : ¬ i = cap := by omega
        have hq4 : (i : Int) ≤ (cap : Int) := by omega
        have hq5 : (n : Int) ≤ (cap : Int) := by omega
        have hq0 : (0 : Int) ≤ (i : Int) := by omega
        have hend : spAll T = R.take i := by
          have := hM.low
          rw [hjn, ← hn'.out, List.take_length] at this
          exact this.symm
        have hend' := Lib.hid hend
        have hli : m = i := by rw [← hm'.out, hend, List.length_take]; omega
        have hli' := Lib.hid hli
        have hij' := Lib.hid hij
        subst hjn
        clear hM hR hK hRl hend hli hij
        go_wp2_with (simp only [hcl])
        go_ret
        have hi2 : i ≤ R.length := by have := hij'.out; rw [hRl'.out]; omega
        exact ⟨by rw [hli'.out]; rfl, by rw [hend'.out]; exact SpRow.cut hR'.out hi2 vs, Keeps.setCells (S := (· = g)) (.inl rfl) _ _ _ hK'.out⟩

/-- a row of the answer's own: the spaces L -/
def RowOut (w : World) (L : List Spc) (e : Ending) (w' : World) : Prop := ∃ g cap, e = .returned (.slice (some ⟨g, 0, none⟩) L.length cap) ∧ SpRow w' (some ⟨g, 0, none⟩) cap L ∧ Keeps Nil w w' ∧ w.heap.size ≤ g
set_option maxHeartbeats 4000000 in
theorem all_any {w : World} {tb : Nat} {E : TypeId} {keys : Int} {T : List Spc} (h : TabAt w tb E keys T) (hl : T.length = 16) :
    Calls Try.prog 12 #[.pointer (some ⟨tb, 0, none⟩)] w (RowOut w (spAll T)) := by
  have hC := Lib.hid (clone30 h hl)
  have hl' := Lib.hid hl
  obtain ⟨L, hL⟩ : ∃ L, spAll T = L := ⟨_, rfl⟩
  have hL' := Lib.hid hL
  rw [hL]
  clear h hl hL
  go_enter Try.func12, Try.ntmps12
  go_wp2_with fail
  refine (hC.out).mono ?_
  rintro e w1 ⟨g, cap, rfl, hr, hk, hg⟩
  have hD := Lib.hid (by have := delfunc29 hr (by rw [hl'.out]; decide); rw [hl'.out, hL'.out] at this; exact this)
  have hk' := Lib.hid hk
  have hg' := Lib.hid hg
  clear hr hk hC hg
  go_wp2_with fail
  refine (hD.out).mono ?_
  rintro e w2 ⟨rfl, hr, hk⟩
  have hk2 := Lib.hid hk
  have hr2 := Lib.hid hr
  clear hr hk hD
  go_wp2_with fail
  go_ret
  exact ⟨g, cap, rfl, hr2.out, hk'.out.trans' hk2.out (fun j hj => .inr (by rw [hj]; exact hg'.out)), hg'.out⟩
end Go.Proofs.Ytmdgbcbnciaikaa
