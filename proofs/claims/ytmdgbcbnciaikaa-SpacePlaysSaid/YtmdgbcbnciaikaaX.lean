/- the reference's Key, Free, All -/
import Derived.Test.YtmdgbcbnciaikaaW
import Derived.Test.YtmdgbcbnciaikaaM
namespace Go.Proofs.Ytmdgbcbnciaikaa
open Go.RowKit

attribute [local go_sem ↓] Go.wp_at_zero Go.wp_at_succ

set_option maxHeartbeats 4000000 in
theorem RIn.key {w : World} {rb ob : Nat} {keys : Int} {T : List Spc} (h : RIn w rb ob keys T) (hok : TabOk keys T) (hkm : keys ≤ 4096) (id lba count : Int) (hl0 : 0 ≤ lba) (hl1 : lba < 18446744073709551616)
    (hc0 : -9223372036854775808 ≤ count) (hc1 : count < 9223372036854775808) :
    Calls Try.prog 18 #[.pointer (some ⟨rb, 0, none⟩), .int .i64 id, .int .u64 lba, .int .i64 count] w fun e w' => e = .returned (.tuple #[.int .i64 (keyV (tat T id) lba count), .int .i64 (keyE (tat T id) lba count)]) ∧ Keeps Nil w w' := by
  have hF := Lib.hid (h.find hok hkm id)
  by_cases hs : tat T id = sp0
  · rw [hs] at hF ⊢
    have e1 : keyV sp0 lba count = 0 := if_pos rfl
    have e2 : keyE sp0 lba count = 140 := if_pos rfl
    rw [e1, e2]
    clear h e1 e2 hs
    go_enter Try.func18, Try.ntmps18
    go_wp2_with fail
    refine (hF.out).mono ?_
    rintro e w1 ⟨rfl, hk⟩
    have hk' := Lib.hid hk
    clear hk hF
    simp only [spV, sp0, ferr, if_true]
    go_wp2_with fail
    go_ret2
    exact ⟨rfl, hk'.out.alloc _⟩
  · rcases id_cases id with h1 | h1 | ⟨i, hi, rfl⟩
    · exact absurd (tat_out (.inl h1)) hs
    · exact absurd (tat_out (.inr h1)) hs
    obtain ⟨_, hso⟩ := tat_id hok hi hs
    obtain ⟨z1, z2, z3⟩ := hso
    generalize ((i : Int) + 1) = id at *
    have e1 : keyV (tat T id) lba count = if count < 1 ∨ (tat T id).size < count ∨ (tat T id).size - count < lba then 0 else (tat T id).base + lba := if_neg hs
    have e2 : keyE (tat T id) lba count = if count < 1 ∨ (tat T id).size < count ∨ (tat T id).size - count < lba then 141 else 0 := if_neg hs
    have e3 : ferr (tat T id) = 0 := if_neg hs
    rw [e1, e2]
    rw [e3] at hF
    clear e1 e2 e3 hs h
    generalize tat T id = s at *
    obtain ⟨a, b, c⟩ := s
    simp only at z1 z2 z3 ⊢
    simp only [spV] at hF
    by_cases g1 : count < 1
    · rw [if_pos (.inl g1), if_pos (.inl g1)]
      go_enter Try.func18, Try.ntmps18
      go_wp2_with fail
      refine (hF.out).mono ?_
      rintro e w1 ⟨rfl, hk⟩
      have hk' := Lib.hid hk
      clear hk hF
      go_wp2_with fail
      go_ret2
      exact ⟨rfl, hk'.out.alloc _⟩
    by_cases g2 : c < count
    · rw [if_pos (.inr (.inl g2)), if_pos (.inr (.inl g2))]
      go_enter Try.func18, Try.ntmps18
      go_wp2_with fail
      refine (hF.out).mono ?_
      rintro e w1 ⟨rfl, hk⟩
      have hk' := Lib.hid hk
      clear hk hF
      go_wp2_with fail
      go_ret2
      exact ⟨rfl, hk'.out.alloc _⟩
    have x1 : IntKind.u64.wrap c = c := by simp [IntKind.wrap, IntKind.signed, IntKind.bits]; omega
    by_cases g3 : c ≤ lba
    · rw [if_pos (.inr (.inr (by omega))), if_pos (.inr (.inr (by omega)))]
      go_enter Try.func18, Try.ntmps18
      go_wp2_with fail
      refine (hF.out).mono ?_
      rintro e w1 ⟨rfl, hk⟩
      have hk' := Lib.hid hk
      clear hk hF
      go_wp2_with fail
      go_ret2
      exact ⟨rfl, hk'.out.alloc _⟩
    have x2 : IntKind.u64.wrap count = count := by simp [IntKind.wrap, IntKind.signed, IntKind.bits]; omega
    have x3 : IntKind.u64.wrap (lba + count) = lba + count := by simp [IntKind.wrap, IntKind.signed, IntKind.bits]; omega
    by_cases g4 : c < lba + count
    · rw [if_pos (.inr (.inr (by omega))), if_pos (.inr (.inr (by omega)))]
      go_enter Try.func18, Try.ntmps18
      go_wp2_with fail
      refine (hF.out).mono ?_
      rintro e w1 ⟨rfl, hk⟩
      have hk' := Lib.hid hk
      clear hk hF
      go_wp2_with fail
      go_ret2
      exact ⟨rfl, hk'.out.alloc _⟩
    · rw [if_neg (by omega), if_neg (by omega)]
      have x4 : IntKind.i64.wrap lba = lba := by simp [IntKind.wrap, IntKind.signed, IntKind.bits]; omega
      have x5 : wrap64 (b + lba) = b + lba := by unfold wrap64; omega
      go_enter Try.func18, Try.ntmps18
      go_wp2_with fail
      refine (hF.out).mono ?_
      rintro e w1 ⟨rfl, hk⟩
      have hk' := Lib.hid hk
      clear hk hF
      go_wp2_with fail
      go_ret2
      exact ⟨rfl, hk'.out.alloc _⟩

theorem count_take {O : List Int} {q : Nat} {x : Int} (h : O[q]? = some x) : (O.take (q + 1)).count 0 = (O.take q).count 0 + if x = 0 then 1 else 0 := by
  obtain ⟨hq, e⟩ := List.getElem?_eq_some_iff.1 h
  rw [List.take_succ_eq_append_getElem hq, e, List.count_append, List.count_singleton]
  by_cases hx : x = 0
  · subst hx; rfl
  · simp [hx]
set_option maxHeartbeats 4000000 in
theorem RIn.free {w : World} {rb ob : Nat} {keys : Int} {T : List Spc} (h : RIn w rb ob keys T) (hkm : keys ≤ 4096) :
    Calls Try.prog 25 #[.pointer (some ⟨rb, 0, none⟩)] w fun e w' => e = .returned (.int .i64 (keys - spSum T)) ∧ Keeps Nil w w' := by
  obtain ⟨O, h1, h2⟩ := h
  have h1' := Lib.hid h1
  have hlen := h2.len
  have hz := h2.zero
  obtain ⟨v, hv⟩ : ∃ v, keys - spSum T = v := ⟨_, rfl⟩
  rw [hv] at hz ⊢
  have hz' := Lib.hid hz
  obtain ⟨n, hn⟩ : ∃ n, O.length = n := ⟨_, rfl⟩
  have hn' := Lib.hid hn
  rw [hn] at hlen
  have hn4 : n ≤ 4096 := by omega
  clear h1 h2 hz hv hn hlen
  go_enter Try.func25, Try.ntmps25
  go_wp2_with fail
  go_loopw [3, 4] (fun cz c wx => ∃ q m : Nat, q ≤ n ∧ c = .int .i64 q ∧ cz = .int .i64 m ∧ m ≤ q ∧ Hid ((O.take q).count 0 = m) ∧ Keeps Nil w wx) (fun _ c _ => n - (intOf c).toNat)
  case atStart => exact ⟨0, 0, by omega, rfl, rfl, by omega, Lib.hid (by simp), Keeps.refl _ _⟩
  case round =>
    obtain ⟨q, m, hq, rfl, rfl, hmq, hC, hK⟩ := hrel
    have hK' := Lib.hid hK
    have hd := (h1'.out.same hK).hd
    rw [hn'.out] at hd
    by_cases hlt : q < n
    · obtain ⟨y, hget⟩ : ∃ y, O[q]? = some y := ⟨_, List.getElem?_eq_getElem (by rw [hn'.out]; omega)⟩
      have e0 := (h1'.out.same hK).cell hget
      have hc := Lib.hid (count_take hget)
      have g3 : (0 : Int) ≤ (q : Int) := by omega
      have g4 : (q : Int) < (n : Int) := by omega
      clear hK hget
      by_cases hy : y = 0
      · subst hy
        go_wp2_with fail
        go_roundw
        case rel => exact ⟨q + 1, m + 1, by omega, by go_num, by go_num, by omega, Lib.hid (by rw [hc.out, hC.out]; rfl), hK'.out⟩
        case measure => simp [intOf]; omega
      · have e1 : (y == 0) = false := beq_eq_false_iff_ne.2 hy
        have hy' := Lib.hid hy
        clear hy
        go_wp2_with fail
        go_roundw
        case rel => exact ⟨q + 1, m, by omega, by go_num, rfl, by omega, Lib.hid (by rw [hc.out, hC.out, if_neg hy'.out, Nat.add_zero]), hK'.out⟩
        case measure => simp [intOf]; omega
    · have hqn : q = n := by omega
      have e : (m : Int) = v := by
        have := hC.out
        rw [hqn, ← hn'.out, List.take_length] at this
        rw [← hz'.out, this]
      have e' := Lib.hid e
      clear hK hC e
      go_wp2_with fail
      go_ret
      exact ⟨ret_int e'.out, hK'.out⟩

set_option maxRecDepth 100000 in
set_option maxHeartbeats 8000000 in
theorem RIn.all {w : World} {rb ob : Nat} {keys : Int} {T : List Spc} (h : RIn w rb ob keys T) (hok : TabOk keys T) (hkm : keys ≤ 4096) :
    Calls Try.prog 24 #[.pointer (some ⟨rb, 0, none⟩)] w fun e w' => ∃ a cap, e = .returned (.slice a (spAll T).length cap) ∧ SpRow w' a cap (spAll T) ∧ Keeps Nil w w' := by
  obtain ⟨i0, hi30, hz0, hz1, hz2⟩ := info_parts info30
  have hF := Lib.hid (show ∀ W, Keeps Nil w W → ∀ id, _ from fun W hW id => (h.same hW).find hok hkm id)
  have hT := Lib.hid (fun (i : Nat) (hi : i < 16) => tat_get hok.len hi)
  have hl := Lib.hid hok.len
  have hi30' := Lib.hid hi30
  have hz0' := Lib.hid hz0
  have hz1' := Lib.hid hz1
  have hz2' := Lib.hid hz2
  clear h hok hi30 hz0 hz1 hz2
  go_enter Try.func24, Try.ntmps24
  go_wp2_with fail
  go_loopw [3, 4, 5, 6] (fun cl c _ _ wx => ∃ (q : Nat) (la : Option Addr) (lc : Nat), q ≤ 16 ∧ c = .int .i64 ((q : Int) + 1) ∧ cl = .slice la (spAll (T.take q)).length lc ∧ SpRow wx la lc (spAll (T.take q)) ∧ (∀ g, blk la = some g → w.heap.size ≤ g) ∧ Keeps Nil w wx) (fun _ c _ _ _ => 17 - (intOf c).toNat)
  case atStart => exact ⟨0, none, 0, by omega, rfl, by simp [spAll], by simpa [spAll] using RecRow.nil w 30, (fun g h => by cases h), Keeps.refl _ _⟩
  case round =>
    obtain ⟨q, la, lc, hq, rfl, rfl, hR, hge, hK⟩ := hrel
    have hK' := Lib.hid hK
    have hR' := Lib.hid hR
    have hge' := Lib.hid hge
    by_cases hlt : q < 16
    · have hFq := hF.out _ hK ((q : Int) + 1)
      have hTq := hT.out q hlt
      have hsp := spAll_take hTq
      have hlq := Lib.hid (show (spAll (T.take q)).length ≤ 16 by have := spAll_len (T.take q); rw [List.length_take] at this; omega)
      have g1 : (q : Int) + 1 ≤ 16 := by omega
      generalize tat T ((q : Int) + 1) = s at hFq hTq hsp
      obtain ⟨A, hA⟩ : ∃ A, spAll (T.take q) = A := ⟨_, rfl⟩
      obtain ⟨A2, hA2⟩ : ∃ A2, spAll (T.take (q + 1)) = A2 := ⟨_, rfl⟩
      rw [hA] at hsp hlq hR' ⊢
      rw [hA2] at hsp
      have hA2' := Lib.hid hA2
      have hFq' := Lib.hid hFq
      have hsp' := Lib.hid hsp
      clear hK hR hge hFq hTq hA hA2 hsp
      by_cases h0 : s = sp0
      · subst h0
        have e1 : A2 = A := by rw [hsp'.out, if_pos rfl]
        have e1' := Lib.hid e1
        clear e1
        go_wp2_with fail
        refine (hFq'.out).mono ?_
        rintro e w3 ⟨rfl, hk3⟩
        have hk3' := Lib.hid (hk3.alloc (.cells #[.int .i64 0, .int .i64 0, .int .i64 0] 30))
        clear hk3 hFq'
        simp only [spV, sp0, ferr, if_true]
        go_wp2_with fail
        go_roundw
        case rel => exact ⟨q + 1, la, lc, by omega, by go_num, by rw [hA2'.out, e1'.out], by rw [hA2'.out, e1'.out]; exact RecRow.keeps hR'.out hk3'.out (fun _ _ h => h), hge'.out, hK'.out.trans hk3'.out⟩
        case measure => simp [intOf]; omega
      · have e1 : A2 = A ++ [s] := by rw [hsp'.out, if_neg h0]
        have e2 : ferr s = 0 := if_neg h0
        have e1' := Lib.hid e1
        rw [e2] at hFq'
        obtain ⟨u, v, y⟩ := s
        simp only [spV] at hFq'
        obtain ⟨p, hp⟩ : ∃ p, A.length = p := ⟨_, rfl⟩
        have hp' := Lib.hid hp
        have hl16 := hlq.out
        rw [hp] at hl16 ⊢
        have hml := Lib.hid (show p + 1 ≤ maxLen by unfold maxLen; omega)
        have hmb := Lib.hid (show (p + 1) * 24 ≤ 140737488355328 by omega)
        clear e1 e2 h0 hp hsp'
        go_wp2_with fail
        refine (hFq'.out).mono ?_
        rintro e w3 ⟨rfl, hk3⟩
        have hk3' := Lib.hid hk3
        have hSr0 := row_one ⟨u, v, y⟩ (heap_alloc_new (w3.alloc (.cells #[.int .i64 u, .int .i64 v, .int .i64 y] 30)) (.cells #[.int .i64 u, .int .i64 v, .int .i64 y] 30))
        rw [show (w3.alloc (.cells #[.int .i64 u, .int .i64 v, .int .i64 y] 30)).heap.size = w3.heap.size + 1 by simp] at hSr0
        have hSr := Lib.hid hSr0
        have hRr : Hid (RowAt ((w3.alloc (.cells #[.int .i64 u, .int .i64 v, .int .i64 y] 30)).alloc (.cells #[.int .i64 u, .int .i64 v, .int .i64 y] 30)) 30 3 la p lc (recs spC A)) := by
          have := RecRow.keeps hR'.out ((hk3.alloc (.cells #[.int .i64 u, .int .i64 v, .int .i64 y] 30)).alloc (.cells #[.int .i64 u, .int .i64 v, .int .i64 y] 30)) (fun _ _ h => h)
          unfold RecRow at this
          rw [hp'.out] at this
          exact this
        clear hk3 hFq' hSr0
        go_wp2_with (at_builtin; refine wpList_app _ rfl _ _ 34 rfl 30 i0 _ 3 24 Try.underlying34 hi30'.out hz0'.out hz1'.out hz2'.out rfl (by decide) la p lc (recs spC A) rfl _ 1 1 (recs spC [⟨u, v, y⟩]) rfl ?_ (by exact hRr.out) (by exact hSr.out) (fun h => by cases h) (spC_one [⟨u, v, y⟩]) (by exact hml.out) (by exact hmb.out); intro a2 cap2 w5 hr5 hk5 hb5)
        have hr5' : Hid (SpRow w5 a2 cap2 (A ++ [⟨u, v, y⟩])) := by
          unfold SpRow RecRow
          rw [recs_app, List.length_append, hp'.out]
          exact hr5
        have hK5 := Lib.hid ((hK'.out.trans ((hk3'.out.alloc (.cells #[.int .i64 u, .int .i64 v, .int .i64 y] 30)).alloc (.cells #[.int .i64 u, .int .i64 v, .int .i64 y] 30))).trans' hk5 (fun j hj => .inr (hge'.out j hj)))
        have hge5 := Lib.hid (show ∀ g, blk a2 = some g → w.heap.size ≤ g from fun g hg => by
          rcases hb5 with e | ⟨e, _⟩
          · exact hge'.out g (by rw [← e]; exact hg)
          · rw [e] at hg
            cases hg
            have h1 := hK'.out.size
            have h2 := hk3'.out.size
            simp
            omega)
        clear hr5 hk5 hb5
        go_roundw
        case rel => exact ⟨q + 1, a2, cap2, by omega, by go_num, by rw [hA2'.out, e1'.out, List.length_append, hp'.out]; rfl, by rw [hA2'.out, e1'.out]; exact hr5'.out, hge5.out, hK5.out⟩
        case measure => simp [intOf]; omega
    · have hqn : q = 16 := by omega
      have e : spAll (T.take q) = spAll T := by rw [hqn, ← hl.out, List.take_length]
      rw [e] at hR' ⊢
      have g1 : ¬ (q : Int) + 1 ≤ 16 := by omega
      clear hK hR hge e
      go_wp2_with fail
      go_ret
      exact ⟨la, lc, rfl, hR'.out, hK'.out⟩
end Go.Proofs.Ytmdgbcbnciaikaa
