/- the reference's Apply -/
import Derived.Test.YtmdgbcbnciaikaaY
namespace Go.Proofs.Ytmdgbcbnciaikaa
open Go.RowKit

attribute [local go_sem ↓] Go.wp_at_zero Go.wp_at_succ

theorem fine_parts {keys : Int} {T : List Spc} (hok : TabOk keys T) {r : Rec} (hr : RecOk r) (hf : fineR keys T r = true) :
    1 ≤ r.a ∧ r.a ≤ 16 ∧ T[(r.a - 1).toNat]? = some sp0 ∧ SpOk keys (spOf r) ∧ ∀ t ∈ spAll T, Apart (spOf r) t := by
  unfold fineR at hf
  rw [Bool.and_eq_true] at hf
  obtain ⟨hm, hn⟩ := hf
  unfold mayR at hm
  obtain ⟨p1, p2, p3, p4, p5, p6⟩ := of_decide_eq_true hm
  obtain ⟨i, hi, ha⟩ : ∃ i : Nat, i < 16 ∧ r.a = (i : Int) + 1 := ⟨(r.a - 1).toNat, by omega, by omega⟩
  have hg := tat_get hok.len hi
  rw [← ha, p6] at hg
  refine ⟨p1, p2, by rw [show (r.a - 1).toNat = i by omega]; exact hg, ⟨p3, hr.c0, by show r.c + r.b ≤ keys; omega⟩, fun t ht => ?_⟩
  rw [Bool.not_eq_true', List.any_eq_false] at hn
  exact over_apart (by simpa using hn t ht)

set_option maxRecDepth 100000 in
set_option maxHeartbeats 8000000 in
theorem RIn.apply {w : World} {rb ob : Nat} {keys : Int} {T : List Spc} (h : RIn w rb ob keys T) (hok : TabOk keys T) (hkm : keys ≤ 4096) {r : Rec} (hr : RecOk r) :
    Calls Try.prog 22 #[.pointer (some ⟨rb, 0, none⟩), recV r] w fun e w' => e = .returned (.int .i64 (apE keys T r)) ∧ RIn w' rb ob keys (apT keys T r) ∧ Keeps (· = ob) w w' := by
  have h' := Lib.hid h
  have hD := Lib.hid (fun o => (h.same ((Keeps.refl Nil w).alloc o)).delete hok hkm r.a)
  by_cases hk4 : r.kind = 4
  · have e4 : (r.kind == 4) = true := by simpa using hk4
    by_cases ha : 16 < r.a
    · have eE : apE keys T r = 140 := by unfold apE; rw [if_pos hk4, if_pos ha]
      have eT : apT keys T r = T := by unfold apT; rw [if_pos hk4, if_pos ha]
      rw [eE, eT]
      obtain ⟨k, s, a, b, c⟩ := r
      simp only at ha e4 hk4
      simp only [recV]
      clear eE eT hr hok hD h e4
      subst hk4
      go_enter Try.func22, Try.ntmps22
      go_wp2_with fail
      go_ret
      exact ⟨rfl, h'.out.same ((Keeps.refl Nil w).alloc _), (Keeps.refl _ w).alloc _⟩
    · have eE : apE keys T r = ferr (tat T r.a) := by unfold apE; rw [if_pos hk4, if_neg ha]
      have eT : apT keys T r = tdel T r.a := by unfold apT; rw [if_pos hk4, if_neg ha]
      rw [eE, eT]
      have x1 : IntKind.i64.wrap r.a = r.a := by have := hr.a0; simp [IntKind.wrap, IntKind.signed, IntKind.bits]; omega
      have hD2 := Lib.hid (hD.out (.cells #[.int .i64 r.kind, .int .u64 r.seq, .int .u64 r.a, .int .u64 r.b, .int .u64 r.c] 48))
      obtain ⟨k, s, a, b, c⟩ := r
      simp only at ha e4 hk4 x1 hD2 ⊢
      simp only [recV]
      generalize ferr (tat T a) = fe at hD2 ⊢
      generalize tat T a = sa at hD2
      generalize tdel T a = T2 at hD2 ⊢
      obtain ⟨u, v, y⟩ := sa
      simp only [spV] at hD2
      clear eE eT hr hok hD h e4
      subst hk4
      go_enter Try.func22, Try.ntmps22
      go_wp2_with fail
      refine (hD2.out).mono ?_
      rintro e w2 ⟨rfl, hT, hk⟩
      have hT' := Lib.hid hT
      have hk' := Lib.hid hk
      clear hT hk hD2
      go_wp2_with fail
      go_ret
      exact ⟨rfl, hT'.out.same ((Keeps.refl Nil w2).alloc _), (((Keeps.refl _ w).alloc _).trans hk'.out).alloc _⟩
  · have e4 : (r.kind == 4) = false := by simpa using hk4
    have no81 : (r.kind = 3 → fineR keys T r = false) → apE keys T r = 81 ∧ apT keys T r = T := fun hf => by
      have hn : ¬ (r.kind = 3 ∧ fineR keys T r = true) := fun hh => by rw [hf hh.1] at hh; exact absurd hh.2 (by decide)
      constructor
      · unfold apE; rw [if_neg hk4, if_neg hn]
      · unfold apT; rw [if_neg hk4, if_neg hn]
    by_cases hk3 : r.kind = 3
    · by_cases g1 : r.a < 1
      · obtain ⟨eE, eT⟩ := no81 (fun _ => fine_not hkm hr (.inl g1))
        rw [eE, eT]
        obtain ⟨k, s, a, b, c⟩ := r
        simp only at hk3 hk4 e4 g1
        simp only [recV]
        clear eE eT hr hok hD h no81 hk4
        subst hk3
        go_enter Try.func22, Try.ntmps22
        go_wp2_with fail
        go_ret
        exact ⟨rfl, h'.out.same ((Keeps.refl Nil w).alloc _), (Keeps.refl _ w).alloc _⟩
      by_cases g2 : 16 < r.a
      · obtain ⟨eE, eT⟩ := no81 (fun _ => fine_not hkm hr (.inr (.inl g2)))
        rw [eE, eT]
        obtain ⟨k, s, a, b, c⟩ := r
        simp only at hk3 hk4 e4 g1 g2
        simp only [recV]
        clear eE eT hr hok hD h no81 hk4
        subst hk3
        go_enter Try.func22, Try.ntmps22
        go_wp2_with fail
        go_ret
        exact ⟨rfl, h'.out.same ((Keeps.refl Nil w).alloc _), (Keeps.refl _ w).alloc _⟩
      by_cases g3 : r.b < 1
      · obtain ⟨eE, eT⟩ := no81 (fun _ => fine_not hkm hr (.inr (.inr (.inl g3))))
        rw [eE, eT]
        obtain ⟨k, s, a, b, c⟩ := r
        simp only at hk3 hk4 e4 g1 g2 g3
        simp only [recV]
        clear eE eT hr hok hD h no81 hk4
        subst hk3
        go_enter Try.func22, Try.ntmps22
        go_wp2_with fail
        go_ret
        exact ⟨rfl, h'.out.same ((Keeps.refl Nil w).alloc _), (Keeps.refl _ w).alloc _⟩
      by_cases g4 : 4096 < r.b
      · obtain ⟨eE, eT⟩ := no81 (fun _ => fine_not hkm hr (.inr (.inr (.inr (.inl g4)))))
        rw [eE, eT]
        obtain ⟨k, s, a, b, c⟩ := r
        simp only at hk3 hk4 e4 g1 g2 g3 g4
        simp only [recV]
        clear eE eT hr hok hD h no81 hk4
        subst hk3
        go_enter Try.func22, Try.ntmps22
        go_wp2_with fail
        go_ret
        exact ⟨rfl, h'.out.same ((Keeps.refl Nil w).alloc _), (Keeps.refl _ w).alloc _⟩
      by_cases g5 : 4096 < r.c
      · obtain ⟨eE, eT⟩ := no81 (fun _ => fine_not hkm hr (.inr (.inr (.inr (.inr g5)))))
        rw [eE, eT]
        obtain ⟨k, s, a, b, c⟩ := r
        simp only at hk3 hk4 e4 g1 g2 g3 g4 g5
        simp only [recV]
        clear eE eT hr hok hD h no81 hk4
        subst hk3
        go_enter Try.func22, Try.ntmps22
        go_wp2_with fail
        go_ret
        exact ⟨rfl, h'.out.same ((Keeps.refl Nil w).alloc _), (Keeps.refl _ w).alloc _⟩
      obtain ⟨O, hR, hRel⟩ := h
      have hfine := hRel.fine hok hr (by omega) (by omega) (by omega)
      have x1 : IntKind.i64.wrap r.a = r.a := by have := hr.a0; simp [IntKind.wrap, IntKind.signed, IntKind.bits]; omega
      have x2 : IntKind.i64.wrap r.b = r.b := by have := hr.b0; simp [IntKind.wrap, IntKind.signed, IntKind.bits]; omega
      have x3 : IntKind.i64.wrap r.c = r.c := by have := hr.c0; simp [IntKind.wrap, IntKind.signed, IntKind.bits]; omega
      have hlen := hRel.len
      have hRk := hR.same ((Keeps.refl Nil w).alloc (.cells #[.int .i64 r.kind, .int .u64 r.seq, .int .u64 r.a, .int .u64 r.b, .int .u64 r.c] 48))
      have hF := rfind_any hRk hRel hok hkm r.a
      obtain ⟨c', hc'⟩ : ∃ c' : Nat, r.c = (c' : Int) := ⟨r.c.toNat, by have := hr.c0; omega⟩
      have hRm := Lib.hid (show ∀ W, Keeps Nil (w.alloc (.cells #[.int .i64 r.kind, .int .u64 r.seq, .int .u64 r.a, .int .u64 r.b, .int .u64 r.c] 48)) W → Calls Try.prog 32 #[.pointer (some ⟨rb, 0, none⟩), .int .i64 r.c, .int .i64 r.b] W fun e w' => e = .returned (.bool (roomB O r.c r.b)) ∧ Keeps Nil W w' from fun W hW => by
        have h := room_any (b := c') (size := r.b) (hRk.same hW) (by omega) (by omega) (by omega) (by omega)
        rw [← hc'] at h
        exact h)
      by_cases hs : tat T r.a = sp0
      · cases hroom : roomB O r.c r.b
        · have hf : fineR keys T r = false := by rw [hfine, hroom, Bool.and_false]
          obtain ⟨eE, eT⟩ := no81 (fun _ => hf)
          rw [eE, eT]
          rw [hroom] at hRm
          rw [hs, show ferr sp0 = 140 from if_pos rfl] at hF
          have hF' := Lib.hid hF
          obtain ⟨k, s, a, b, c⟩ := r
          simp only at hk3 hk4 e4 g1 g2 g3 g4 g5 x1 x2 x3 hRm hF'
          simp only [recV]
          simp only [spV, sp0] at hF'
          clear eE eT hr hok hD no81 hk4 hF hs hfine hf hRk hlen hc' hroom hR hRel
          subst hk3
          go_enter Try.func22, Try.ntmps22
          go_wp2_with fail
          refine (hF'.out).mono ?_
          rintro e w2 ⟨rfl, hk⟩
          have hb2 := hk.alloc (.cells #[.int .i64 0, .int .i64 0, .int .i64 0] 30)
          have hb2' := Lib.hid hb2
          have hh := hb2.heap (heap_alloc_new w _) (fun h => h)
          have c2 := cell_of_heap hh 2
          have c3 := cell_of_heap hh 3
          have c4 := cell_of_heap hh 4
          simp at c2 c3 c4
          clear hk hF' hb2 hh
          go_wp2_with fail
          refine (hRm.out _ hb2'.out).mono ?_
          rintro e w3 ⟨rfl, hk3⟩
          have hk3' := Lib.hid hk3
          clear hk3 c2 c3 c4
          go_wp2_with fail
          go_ret
          have hfin := ((Keeps.refl Nil w).alloc _).trans (hb2'.out.trans hk3'.out)
          exact ⟨rfl, h'.out.same hfin, hfin.mono (fun _ h => h.elim)⟩
        · have hf : fineR keys T r = true := by rw [hfine, hroom, Bool.and_true]; exact decide_eq_true hs
          have eE : apE keys T r = 0 := by unfold apE; rw [if_neg hk4, if_pos ⟨hk3, hf⟩]
          have eT : apT keys T r = T.set (r.a - 1).toNat (spOf r) := by unfold apT; rw [if_neg hk4, if_pos ⟨hk3, hf⟩]
          rw [eE, eT]
          rw [hroom] at hRm
          rw [hs, show ferr sp0 = 140 from if_pos rfl] at hF
          have hF' := Lib.hid hF
          obtain ⟨p1, p2, p3, p4, p5⟩ := fine_parts hok hr hf
          have hput := Lib.hid (show ∀ W, Keeps Nil (w.alloc (.cells #[.int .i64 r.kind, .int .u64 r.seq, .int .u64 r.a, .int .u64 r.b, .int .u64 r.c] 48)) W → Calls Try.prog 33 #[.pointer (some ⟨rb, 0, none⟩), .int .i64 r.c, .int .i64 r.b, .int .i64 r.a] W fun e w' => e = .returned (.tuple #[]) ∧ RIn w' rb ob keys (T.set (r.a - 1).toNat (spOf r)) ∧ Keeps (· = ob) W w' from fun W hW => by
            have h := RIn.put (s := spOf r) ⟨O, hRk.same hW, hRel⟩ hkm p3 (fun e => by have := congrArg Spc.id e; simp [sp0, spOf] at this; omega) p1 p4 p5 hok
            simp only [spOf] at h
            exact h)
          generalize T.set (r.a - 1).toNat (spOf r) = T2 at hput ⊢
          obtain ⟨k, s, a, b, c⟩ := r
          simp only at hk3 hk4 e4 g1 g2 g3 g4 g5 x1 x2 x3 hRm hF' hput
          simp only [recV]
          simp only [spV, sp0] at hF'
          clear eE eT hr hok hD no81 hk4 hF hs hfine hf hRk hlen hc' hroom hR hRel p1 p2 p3 p4 p5
          subst hk3
          go_enter Try.func22, Try.ntmps22
          go_wp2_with fail
          refine (hF'.out).mono ?_
          rintro e w2 ⟨rfl, hk⟩
          have hb2 := hk.alloc (.cells #[.int .i64 0, .int .i64 0, .int .i64 0] 30)
          have hb2' := Lib.hid hb2
          have hh := hb2.heap (heap_alloc_new w _) (fun h => h)
          have hh' := Lib.hid hh
          have c2 := cell_of_heap hh 2
          have c3 := cell_of_heap hh 3
          have c4 := cell_of_heap hh 4
          simp at c2 c3 c4
          clear hk hF' hb2 hh
          go_wp2_with fail
          refine (hRm.out _ hb2'.out).mono ?_
          rintro e w3 ⟨rfl, hk3⟩
          have hk3' := Lib.hid (hb2'.out.trans hk3)
          have hh := hk3.heap hh'.out (fun h => h)
          have d2 := cell_of_heap hh 2
          have d3 := cell_of_heap hh 3
          have d4 := cell_of_heap hh 4
          simp at d2 d3 d4
          clear hk3 c2 c3 c4 hh
          go_wp2_with fail
          refine (hput.out _ hk3'.out).mono ?_
          rintro e w4 ⟨rfl, hR4, hk4⟩
          have hR4' := Lib.hid hR4
          have hk4' := Lib.hid hk4
          clear hR4 hk4 d2 d3 d4
          go_wp2_with fail
          go_ret
          exact ⟨rfl, hR4'.out, ((((Keeps.refl Nil w).alloc _).trans hk3'.out).mono (fun _ h => h.elim)).trans hk4'.out⟩
      · have hf : fineR keys T r = false := by rw [hfine, decide_eq_false hs, Bool.false_and]
        obtain ⟨eE, eT⟩ := no81 (fun _ => hf)
        rw [eE, eT]
        rw [show ferr (tat T r.a) = 0 from if_neg hs] at hF
        have hF' := Lib.hid hF
        generalize roomB O r.c r.b = rm at hRm
        obtain ⟨k, s, a, b, c⟩ := r
        simp only at hk3 hk4 e4 g1 g2 g3 g4 g5 x1 x2 x3 hRm hF'
        simp only [recV]
        generalize tat T a = sa at hF'
        obtain ⟨u, v, y⟩ := sa
        simp only [spV] at hF'
        clear eE eT hr hok hD no81 hk4 hF hs hfine hf hRk hlen hc' hR hRel
        subst hk3
        go_enter Try.func22, Try.ntmps22
        go_wp2_with fail
        refine (hF'.out).mono ?_
        rintro e w2 ⟨rfl, hk⟩
        have hb2 := hk.alloc (.cells #[.int .i64 u, .int .i64 v, .int .i64 y] 30)
        have hb2' := Lib.hid hb2
        have hh := hb2.heap (heap_alloc_new w _) (fun h => h)
        have c2 := cell_of_heap hh 2
        have c3 := cell_of_heap hh 3
        have c4 := cell_of_heap hh 4
        simp at c2 c3 c4
        clear hk hF' hb2 hh
        go_wp2_with fail
        refine (hRm.out _ hb2'.out).mono ?_
        rintro e w3 ⟨rfl, hk3⟩
        have hk3' := Lib.hid hk3
        clear hk3 c2 c3 c4
        go_wp2_with fail
        go_ret
        have hfin := ((Keeps.refl Nil w).alloc _).trans (hb2'.out.trans hk3'.out)
        exact ⟨rfl, h'.out.same hfin, hfin.mono (fun _ h => h.elim)⟩
    · have e3 : (r.kind == 3) = false := by simpa using hk3
      have e3' : (r.kind != 3) = true := by simpa using hk3
      obtain ⟨eE, eT⟩ := no81 (fun h => absurd h hk3)
      rw [eE, eT]
      obtain ⟨k, s, a, b, c⟩ := r
      simp only at hk3 hk4 e3 e3' e4
      simp only [recV]
      clear eE eT hr hok hD h no81
      go_enter Try.func22, Try.ntmps22
      go_wp2_with fail
      go_ret
      exact ⟨rfl, h'.out.same ((Keeps.refl Nil w).alloc _), (Keeps.refl _ w).alloc _⟩
end Go.Proofs.Ytmdgbcbnciaikaa
