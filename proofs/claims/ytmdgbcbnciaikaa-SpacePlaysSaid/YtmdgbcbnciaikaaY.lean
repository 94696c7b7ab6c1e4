/- the reference's Create -/
import Derived.Test.YtmdgbcbnciaikaaX
namespace Go.Proofs.Ytmdgbcbnciaikaa
open Go.RowKit

attribute [local go_sem ↓] Go.wp_at_zero Go.wp_at_succ

theorem idx0_at {T : List Spc} {q : Nat} {s : Spc} (hs : T[q]? = some s) : idx0 (T.drop q) q = if s = sp0 then (q : Int) else idx0 (T.drop (q + 1)) (q + 1) := by
  obtain ⟨h, e⟩ := List.getElem?_eq_some_iff.1 hs
  rw [idx0_drop h, e]

set_option maxHeartbeats 4000000 in
theorem rcreate_low {w : World} {rb : Nat} {size : Int} (h1 : size < 1) : Calls Try.prog 16 #[.pointer (some ⟨rb, 0, none⟩), .int .i64 size] w fun e w' => e = .returned (.tuple #[spV sp0, .int .i64 1]) ∧ Keeps Nil w w' := by
  go_enter Try.func16, Try.ntmps16
  go_wp2_with fail
  exact bodyPost_ret (v := .tuple #[spV sp0, .int .i64 1]) (by simp [results, Try.results16, go_sem, spV, sp0]) rfl ⟨rfl, (Keeps.refl Nil w).alloc _⟩

set_option maxRecDepth 100000 in
set_option maxHeartbeats 8000000 in
theorem rcreate_walk {w : World} {rb ob : Nat} {keys : Int} {T : List Spc} (h : RIn w rb ob keys T) (hok : TabOk keys T) (hkm : keys ≤ 4096) {size : Int} (hs0 : 1 ≤ size) (hs1 : size < 9223372036854775808) :
    Calls Try.prog 16 #[.pointer (some ⟨rb, 0, none⟩), .int .i64 size] w fun e w' => e = .returned (.tuple #[spV (crS keys T size), .int .i64 (crE keys T size)]) ∧ RIn w' rb ob keys (crT keys T size) ∧ Keeps (· = ob) w w' := by
  obtain ⟨O, hR, hRel⟩ := h
  have hlen := hRel.len
  have hlow := hRel.low hok hs0
  obtain ⟨hl1, hl2⟩ := RIn.lt ⟨O, hR, hRel⟩
  have h0 := hR.same ((Keeps.refl Nil w).alloc zblk)
  have hF := Lib.hid (show ∀ W, Keeps Nil (w.alloc zblk) W → ∀ id, _ from fun W hW id => rfind_any (h0.same hW) hRel hok hkm id)
  have hRm := Lib.hid (show ∀ W, Keeps Nil (w.alloc zblk) W → ∀ b : Nat, b ≤ 4096 → _ from fun W hW b hb => room_any (h0.same hW) hs0 hs1 hb (by omega))
  have hI0 := Lib.hid h0
  have hT := Lib.hid (fun (i : Nat) (hi : i < 16) => tat_get hok.len hi)
  have hTl := Lib.hid hok.len
  obtain ⟨n, hn⟩ : ∃ n, O.length = n := ⟨_, rfl⟩
  have hn' := Lib.hid hn
  have hn4 : n ≤ 4096 := by omega
  obtain ⟨ix, hix⟩ : ∃ ix, idx0 T 0 = ix := ⟨_, rfl⟩
  have hix' := Lib.hid hix
  have hRel' := Lib.hid hRel
  have hok' := Lib.hid hok
  have hlow' := Lib.hid hlow
  have n1 : ¬ w.heap.size = ob := by omega
  have n2 : ¬ ob = w.heap.size := by omega
  have n3 : ¬ rb = w.heap.size := by omega
  have g0 : ¬ size < 1 := by omega
  simp only [zblk] at hF hRm hI0
  clear hlen hlow h0 hR hRel hok hn hix hl1 hl2
  go_enter Try.func16, Try.ntmps16
  go_wp2_with fail
  have hk0 := Lib.hid ((Keeps.refl Nil w).alloc (.cells #[.int .i64 0, .int .i64 0, .int .i64 0] 30))
  have hb0 := Lib.hid (heap_alloc_new w (.cells #[.int .i64 0, .int .i64 0, .int .i64 0] 30))
  obtain ⟨W0, hW0⟩ : ∃ W0, w.alloc (.cells #[.int .i64 0, .int .i64 0, .int .i64 0] 30) = W0 := ⟨_, rfl⟩
  rw [hW0] at hF hRm hI0 hk0 hb0 ⊢
  clear hW0
  go_loopw [6, 7, 8] (fun c _ _ wx => ∃ q : Nat, q ≤ 16 ∧ c = .int .i64 ((q : Int) + 1) ∧ Hid (idx0 (T.drop q) q = ix) ∧ Keeps Nil W0 wx) (fun c _ _ _ => 17 - (intOf c).toNat)
  case atStart => exact ⟨0, by omega, rfl, Lib.hid (by simpa using hix'.out), Keeps.refl _ _⟩
  case round =>
    obtain ⟨q, hq, rfl, hI, hK⟩ := hrel
    have hK' := Lib.hid hK
    by_cases hlt : q < 16
    · have hTq := hT.out q hlt
      have hFq := hF.out _ hK ((q : Int) + 1)
      have hi := idx0_at hTq
      rw [hI.out] at hi
      have hTq' := Lib.hid hTq
      obtain ⟨s, hse⟩ : ∃ s, tat T ((q : Int) + 1) = s := ⟨_, rfl⟩
      rw [hse] at hFq hi
      have hse' := Lib.hid hse
      have hi' := Lib.hid hi
      have hFq' := Lib.hid hFq
      have g1 : (q : Int) + 1 ≤ 16 := by omega
      clear hK hTq hFq hi hI hse
      by_cases hs : s = sp0
      · have ei : ix = (q : Int) := by rw [hi'.out, if_pos hs]
        have ei' := Lib.hid ei
        subst hs
        rw [show ferr sp0 = 140 from if_pos rfl] at hFq'
        simp only [spV, sp0] at hFq'
        clear hi' ei
        go_wp2_with fail
        refine (hFq'.out).mono ?_
        rintro e w3 ⟨rfl, hk3⟩
        have hK3 := Lib.hid (hK'.out.trans (hk3.alloc (.cells #[.int .i64 0, .int .i64 0, .int .i64 0] 30)))
        clear hk3 hFq' hK'
        go_wp2_with fail
        obtain ⟨W1, hW1⟩ : ∃ W1, w3.alloc (.cells #[.int .i64 0, .int .i64 0, .int .i64 0] 30) = W1 := ⟨_, rfl⟩
        rw [hW1] at hK3 ⊢
        clear hW1
        rcases hlow'.out with ⟨l1, l2⟩ | ⟨p, l1, l2, l3⟩
        · have hcf : crIf keys T size = false := by unfold crIf; exact decide_eq_false (by omega)
          have hS := Lib.hid (show crS keys T size = sp0 by unfold crS; rw [hcf]; rfl)
          have hE := Lib.hid (show crE keys T size = 90 by unfold crE; rw [hcf, if_neg (show ¬ size < 1 by omega)]; rfl)
          have hCT := Lib.hid (show crT keys T size = T by unfold crT; rw [hcf]; rfl)
          have l2' := Lib.hid l2
          clear l1 l2 hcf
          go_loopw [9, 10] (fun c _ wx => ∃ b : Nat, b ≤ n ∧ c = .int .i64 b ∧ Keeps Nil W1 wx) (fun c _ _ => n - (intOf c).toNat)
          case atStart => exact ⟨0, by omega, rfl, Keeps.refl _ _⟩
          case round =>
            obtain ⟨b, hb, rfl, hK⟩ := hrel
            have hK4 := Lib.hid (hK3.out.trans hK)
            have hK' := Lib.hid hK
            have hd := (hI0.out.same hK4.out).hd
            rw [hn'.out] at hd
            by_cases hlb : b < n
            · have hRb := hRm.out _ hK4.out b (by omega)
              rw [l2'.out b] at hRb
              have hRb' := Lib.hid hRb
              have g3 : (b : Int) < (n : Int) := by omega
              clear hK hRb
              go_wp2_with fail
              refine (hRb'.out).mono ?_
              rintro e w5 ⟨rfl, hk5⟩
              have hK5 := Lib.hid (hK'.out.trans hk5)
              clear hk5 hRb'
              go_wp2_with fail
              go_roundw
              case rel => exact ⟨b + 1, by omega, by go_num, hK5.out⟩
              case measure => simp [intOf]; omega
            · have g3 : ¬ (b : Int) < (n : Int) := by omega
              have hb5 := hK4.out.heap hb0.out (fun h => h)
              have a0 := cell_of_heap hb5 0
              have a1 := cell_of_heap hb5 1
              have a2 := cell_of_heap hb5 2
              have f0 := frozen_of_heap hb5 0
              have f1 := frozen_of_heap hb5 1
              have f2 := frozen_of_heap hb5 2
              simp at a0 a1 a2
              have y := Lib.hid (cells3 wr w.heap.size (v0 := .int .i64 0) (v1 := .int .i64 0) (v2 := .int .i64 0) a0 a1 a2)
              have hIe := Lib.hid (hI0.out.same hK4.out)
              clear hK hb5
              go_wp2_with fail
              obtain ⟨y0, y1, y2⟩ := y.out
              refine bodyPost_ret (v := .tuple #[spV sp0, .int .i64 90]) (by simp [results, Try.results16, go_sem, spV, sp0, y0, y1, y2]) rfl ⟨by rw [hS.out, hE.out], ?_, ?_⟩
              · rw [hCT.out]
                exact ⟨O, hIe.out.keeps ((Keeps.refl (· = w.heap.size) _).set3 (.inl rfl) _ _ _ _ _ _) (fun e => n3 e) (fun e => n2 e), hRel'.out⟩
              · exact ((hk0.out.trans hK4.out).mono (fun _ h => h.elim)).set3 (.inr (Nat.le_refl _)) _ _ _ _ _ _
        · have hcf : crIf keys T size = true := by unfold crIf; exact decide_eq_true (by rw [hix'.out, ei'.out]; omega)
          have hS := Lib.hid (show crS keys T size = ⟨(q : Int) + 1, p, size⟩ by unfold crS; rw [hcf, hix'.out, ei'.out, l1]; rfl)
          have hE := Lib.hid (show crE keys T size = 0 by unfold crE; rw [hcf, if_neg (show ¬ size < 1 by omega)]; rfl)
          have hCT := Lib.hid (show crT keys T size = T.set q ⟨(q : Int) + 1, p, size⟩ by unfold crT; rw [hcf, hix'.out, ei'.out, l1]; rfl)
          have hTq0 : T[q]? = some sp0 := by rw [hTq'.out, hse'.out]
          have hok2 : TabOk keys (T.set q ⟨(q : Int) + 1, p, size⟩) := by rw [← hCT.out]; exact crT_ok hok'.out
          have hsne : (⟨(q : Int) + 1, p, size⟩ : Spc) ≠ sp0 := fun e => by have := congrArg Spc.size e; simp [sp0] at this; omega
          have hql : q < T.length := by rw [hTl.out]; exact hlt
          have hsq : (T.set q ⟨(q : Int) + 1, p, size⟩)[q]? = some ⟨(q : Int) + 1, p, size⟩ := by rw [List.getElem?_set, if_pos rfl, if_pos hql]
          have hap : ∀ t ∈ spAll T, Apart ⟨(q : Int) + 1, p, size⟩ t := by
            intro t ht
            obtain ⟨h1, h2⟩ := mem_all.1 ht
            obtain ⟨j, hj⟩ := List.mem_iff_getElem?.1 h1
            have hqj : q ≠ j := by rintro rfl; rw [hTq0] at hj; exact h2 (Option.some.inj hj).symm
            exact hok2.two q j _ t hqj hsq (by rw [List.getElem?_set, if_neg hqj]; exact hj) hsne h2
          have hso : SpOk keys ⟨(q : Int) + 1, p, size⟩ := hok2.all (mem_all.2 ⟨List.mem_of_getElem? hsq, hsne⟩)
          have hpn : p < n := by
            have h1 := hso.top
            have h2 := hRel'.out.len
            rw [hn'.out] at h2
            simp only at h1
            omega
          have hput := Lib.hid (show ∀ W, Keeps Nil W0 W → Calls Try.prog 33 #[.pointer (some ⟨rb, 0, none⟩), .int .i64 p, .int .i64 size, .int .i64 ((q : Int) + 1)] W fun e w' => e = .returned (.tuple #[]) ∧ RIn w' rb ob keys (T.set q ⟨(q : Int) + 1, p, size⟩) ∧ Keeps (· = ob) W w' from fun W hW => by
            have h := RIn.put (s := ⟨(q : Int) + 1, p, size⟩) ⟨O, hI0.out.same hW, hRel'.out⟩ hkm hTq0 hsne (by show (1 : Int) ≤ (q : Int) + 1; omega) hso hap hok'.out
            simp only at h
            exact h)
          have l2' := Lib.hid l2
          have l3' := Lib.hid l3
          clear l1 l2 l3 hcf hTq0 hok2 hsne hql hsq hap hso
          go_loopw [9, 10] (fun c _ wx => ∃ b : Nat, b ≤ p ∧ c = .int .i64 b ∧ Keeps Nil W1 wx) (fun c _ _ => n - (intOf c).toNat)
          case atStart => exact ⟨0, by omega, rfl, Keeps.refl _ _⟩
          case round =>
            obtain ⟨b, hb, rfl, hK⟩ := hrel
            have hK4 := Lib.hid (hK3.out.trans hK)
            have hK' := Lib.hid hK
            have hd := (hI0.out.same hK4.out).hd
            rw [hn'.out] at hd
            have g3 : (b : Int) < (n : Int) := by omega
            by_cases hlb : b < p
            · have hRb := hRm.out _ hK4.out b (by omega)
              rw [l3'.out b hlb] at hRb
              have hRb' := Lib.hid hRb
              clear hK hRb
              go_wp2_with fail
              refine (hRb'.out).mono ?_
              rintro e w5 ⟨rfl, hk5⟩
              have hK5 := Lib.hid (hK'.out.trans hk5)
              clear hk5 hRb'
              go_wp2_with fail
              go_roundw
              case rel => exact ⟨b + 1, by omega, by go_num, hK5.out⟩
              case measure => simp [intOf]; omega
            · obtain rfl : b = p := by omega
              have hRb := hRm.out _ hK4.out b (by omega)
              rw [l2'.out] at hRb
              have hRb' := Lib.hid hRb
              clear hK hRb
              go_wp2_with fail
              refine (hRb'.out).mono ?_
              rintro e w5 ⟨rfl, hk5⟩
              have hK5 := Lib.hid (hK4.out.trans hk5)
              clear hk5 hRb'
              go_wp2_with fail
              refine (hput.out _ hK5.out).mono ?_
              rintro e w6 ⟨rfl, hR6, hk6⟩
              have hR6' := Lib.hid hR6
              have hK6 := Lib.hid hk6
              have hb5 := hk6.heap (hK5.out.heap hb0.out (fun h => h)) (fun e => n1 e)
              have a0 := cell_of_heap hb5 0
              have a1 := cell_of_heap hb5 1
              have a2 := cell_of_heap hb5 2
              have f0 := frozen_of_heap hb5 0
              have f1 := frozen_of_heap hb5 1
              have f2 := frozen_of_heap hb5 2
              simp at a0 a1 a2
              have y := Lib.hid (cells3 w6 w.heap.size (v0 := .int .i64 ((q : Int) + 1)) (v1 := .int .i64 b) (v2 := .int .i64 size) a0 a1 a2)
              clear hR6 hk6 hb5
              go_wp2_with fail
              obtain ⟨y0, y1, y2⟩ := y.out
              refine bodyPost_ret (v := .tuple #[spV ⟨(q : Int) + 1, b, size⟩, .int .i64 0]) (by simp [results, Try.results16, go_sem, spV, y0, y1, y2]) rfl ⟨by rw [hS.out, hE.out], ?_, ?_⟩
              · rw [hCT.out]
                exact hR6'.out.other ((Keeps.refl (· = w.heap.size) _).set3 (.inl rfl) _ _ _ _ _ _) (fun e => n3 e) (fun e => n2 e)
              · exact (((hk0.out.trans hK5.out).mono (fun _ h => h.elim)).trans hK6.out).set3 (.inr (Nat.le_refl _)) _ _ _ _ _ _
      · have ei : ix = idx0 (T.drop (q + 1)) (q + 1) := by rw [hi'.out, if_neg hs]
        have ei' := Lib.hid ei
        rw [show ferr s = 0 from if_neg hs] at hFq'
        obtain ⟨u, v, y⟩ := s
        simp only [spV] at hFq'
        clear hi' ei hs
        go_wp2_with fail
        refine (hFq'.out).mono ?_
        rintro e w3 ⟨rfl, hk3⟩
        have hK3 := Lib.hid (hK'.out.trans (hk3.alloc (.cells #[.int .i64 u, .int .i64 v, .int .i64 y] 30)))
        clear hk3 hFq' hK'
        go_wp2_with fail
        go_roundw
        case rel => exact ⟨q + 1, by omega, by go_num, Lib.hid ei'.out.symm, hK3.out⟩
        case measure => simp [intOf]; omega
    · have hq16 : q = 16 := by omega
      have ei : ix = -1 := by
        have := hI.out
        rw [hq16, ← hTl.out, List.drop_length] at this
        exact this.symm
      have hcf : crIf keys T size = false := by unfold crIf; exact decide_eq_false (by rw [hix'.out]; omega)
      have hS := Lib.hid (show crS keys T size = sp0 by unfold crS; rw [hcf]; rfl)
      have hE := Lib.hid (show crE keys T size = 90 by unfold crE; rw [hcf, if_neg (show ¬ size < 1 by omega)]; rfl)
      have hCT := Lib.hid (show crT keys T size = T by unfold crT; rw [hcf]; rfl)
      have g1 : ¬ (q : Int) + 1 ≤ 16 := by omega
      have hd := (hI0.out.same hK).hd
      rw [hn'.out] at hd
      have hb5 := hK.heap hb0.out (fun h => h)
      have a0 := cell_of_heap hb5 0
      have a1 := cell_of_heap hb5 1
      have a2 := cell_of_heap hb5 2
      have f0 := frozen_of_heap hb5 0
      have f1 := frozen_of_heap hb5 1
      have f2 := frozen_of_heap hb5 2
      simp at a0 a1 a2
      have y := Lib.hid (cells3 wr w.heap.size (v0 := .int .i64 0) (v1 := .int .i64 0) (v2 := .int .i64 0) a0 a1 a2)
      have hIe := Lib.hid (hI0.out.same hK)
      clear hK hI ei hcf hb5
      go_wp2_with fail
      go_loopw [9, 10] (fun c _ wx => c = .int .i64 0 ∧ wx = wr) (fun _ _ _ => 0)
      case atStart => exact ⟨rfl, rfl⟩
      case round =>
        obtain ⟨rfl, rfl⟩ := hrel
        by_cases h0 : (0 : Int) < (n : Int)
        · go_wp2_with fail
          obtain ⟨y0, y1, y2⟩ := y.out
          refine bodyPost_ret (v := .tuple #[spV sp0, .int .i64 90]) (by simp [results, Try.results16, go_sem, spV, sp0, y0, y1, y2]) rfl ⟨by rw [hS.out, hE.out], ?_, ?_⟩
          · rw [hCT.out]
            exact ⟨O, hIe.out.keeps ((Keeps.refl (· = w.heap.size) _).set3 (.inl rfl) _ _ _ _ _ _) (fun e => n3 e) (fun e => n2 e), hRel'.out⟩
          · exact ((hk0.out.trans hK'.out).mono (fun _ h => h.elim)).set3 (.inr (Nat.le_refl _)) _ _ _ _ _ _
        · go_wp2_with fail
          obtain ⟨y0, y1, y2⟩ := y.out
          refine bodyPost_ret (v := .tuple #[spV sp0, .int .i64 90]) (by simp [results, Try.results16, go_sem, spV, sp0, y0, y1, y2]) rfl ⟨by rw [hS.out, hE.out], ?_, ?_⟩
          · rw [hCT.out]
            exact ⟨O, hIe.out.keeps ((Keeps.refl (· = w.heap.size) _).set3 (.inl rfl) _ _ _ _ _ _) (fun e => n3 e) (fun e => n2 e), hRel'.out⟩
          · exact ((hk0.out.trans hK'.out).mono (fun _ h => h.elim)).set3 (.inr (Nat.le_refl _)) _ _ _ _ _ _

theorem RIn.create {w : World} {rb ob : Nat} {keys : Int} {T : List Spc} (h : RIn w rb ob keys T) (hok : TabOk keys T) (hkm : keys ≤ 4096) {size : Int} (hs1 : size < 9223372036854775808) :
    Calls Try.prog 16 #[.pointer (some ⟨rb, 0, none⟩), .int .i64 size] w fun e w' => e = .returned (.tuple #[spV (crS keys T size), .int .i64 (crE keys T size)]) ∧ RIn w' rb ob keys (crT keys T size) ∧ Keeps (· = ob) w w' := by
  by_cases hs0 : size < 1
  · have hf : crIf keys T size = false := by unfold crIf; exact decide_eq_false (by omega)
    have e1 : crS keys T size = sp0 := by unfold crS; rw [hf]; rfl
    have e2 : crE keys T size = 1 := by unfold crE; rw [if_pos hs0]
    have e3 : crT keys T size = T := by unfold crT; rw [hf]; rfl
    rw [e1, e2, e3]
    refine (rcreate_low hs0).mono ?_
    rintro e w' ⟨rfl, hk⟩
    exact ⟨rfl, h.same hk, hk.mono (fun _ h => h.elim)⟩
  · exact rcreate_walk h hok hkm (by omega) hs1
end Go.Proofs.Ytmdgbcbnciaikaa
