/- slices.IndexFunc, slices.Index over rows of spaces -/
import Derived.Test.YtmdgbcbnciaikaaC
namespace Go.Proofs.Ytmdgbcbnciaikaa
open Go.RowKit

attribute [local go_sem ↓] Go.wp_at_zero Go.wp_at_succ

abbrev SpRow (w : World) (a : Option Addr) (cap : Nat) (L : List Spc) : Prop := RecRow spC 3 w 30 a cap L
theorem SpRow.cells {w : World} {g cap : Nat} {L : List Spc} (h : SpRow w (some ⟨g, 0, none⟩) cap L) {i : Nat} {s : Spc} (hs : L[i]? = some s) :
    w.cell? ⟨g, i * 3, none⟩ = some (.int .i64 s.id) ∧ w.cell? ⟨g, i * 3 + 1, none⟩ = some (.int .i64 s.base) ∧ w.cell? ⟨g, i * 3 + 2, none⟩ = some (.int .i64 s.size) := by
  obtain ⟨g', hg, _, _, hc⟩ := RecRow.cell h spC_len hs
  cases hg
  exact ⟨hc 0 _ (by decide) rfl, hc 1 _ (by decide) rfl, hc 2 _ (by decide) rfl⟩

set_option maxHeartbeats 4000000 in
/-- slices.IndexFunc with All's closure: the first place where none is -/
theorem index38 {w : World} {g cap : Nat} {L : List Spc} (h : SpRow w (some ⟨g, 0, none⟩) cap L) (hlen : L.length ≤ 1000000) :
    Calls Try.prog 38 #[.slice (some ⟨g, 0, none⟩) L.length cap, .func (.func 31) #[] #[]] w fun e w' => e = .returned (.int .i64 (idx0 L 0)) ∧ Keeps Nil w w' := by
  have h' := Lib.hid h
  obtain ⟨z, hz⟩ : ∃ z, idx0 L 0 = z := ⟨_, rfl⟩
  have hz' := Lib.hid hz
  obtain ⟨n, hn⟩ : ∃ n, L.length = n := ⟨_, rfl⟩
  have hn' := Lib.hid hn
  rw [hz]
  rw [hn] at hlen ⊢
  clear h hz hn
  go_enter Try.func38, Try.ntmps38
  go_wp2_with fail
  go_loopw [5, 8] (fun _ c wx => ∃ q : Nat, q ≤ n ∧ c = .int .i64 q ∧ Hid (idx0 (L.drop q) q = z) ∧ Keeps Nil w wx) (fun _ c _ => n - (intOf c).toNat)
  case atStart => exact ⟨0, by omega, rfl, Lib.hid (by simpa using hz'.out), Keeps.refl _ _⟩
  case round =>
    obtain ⟨q, hq, rfl, hI, hK⟩ := hrel
    have hK' := Lib.hid hK
    by_cases hlt : q < n
    · obtain ⟨s, hs⟩ : ∃ s, L[q]? = some s := ⟨_, List.getElem?_eq_getElem (by rw [hn'.out]; exact hlt)⟩
      obtain ⟨c0, c1, c2⟩ := SpRow.cells (h'.out.keeps hK (fun _ _ h => h)) hs
      have hE := Lib.hid (empty31 s wr)
      have hi := idx0_drop (T := L) (q := q) (by rw [hn'.out]; exact hlt)
      rw [(List.getElem?_eq_some_iff.1 hs).2, hI.out] at hi
      have g1 : (0 : Int) ≤ (q : Int) := by omega
      have g2 : (q : Int) < (n : Int) := by omega
      have hi' := Lib.hid hi
      have hs' := Lib.hid hs
      clear hi hK hs hI
      by_cases h0 : s = sp0
      · have e0 : z = (q : Int) := by have := hi'.out; rwa [if_pos h0] at this
        rw [decide_eq_true h0] at hE
        have e0' := Lib.hid e0
        simp only [spV] at hE
        clear h0 hi' hz' e0
        go_wp2_with fail
        refine (hE.out).mono ?_
        rintro e w2 ⟨rfl, hk2⟩
        have hk2' := Lib.hid hk2
        clear hk2
        go_wp2_with fail
        go_ret
        exact ⟨ret_int e0'.out.symm, hK'.out.trans hk2'.out⟩
      · have e0 : z = idx0 (L.drop (q + 1)) (q + 1) := by have := hi'.out; rwa [if_neg h0] at this
        have e0' := Lib.hid e0
        rw [decide_eq_false h0] at hE
        simp only [spV] at hE
        clear h0 hi' hz' e0
        go_wp2_with fail
        refine (hE.out).mono ?_
        rintro e w2 ⟨rfl, hk2⟩
        have hk2' := Lib.hid hk2
        clear hk2
        go_wp2_with fail
        go_roundw
        case rel => exact ⟨q + 1, by omega, by go_num, e0'.out.symm, hK'.out.trans hk2'.out⟩
        case measure => simp [intOf]; omega
    · have hqn : q = n := by omega
      have e : z = -1 := by rw [← hI.out, hqn, ← hn'.out, List.drop_length]; rfl
      have e' := Lib.hid e
      clear hK hI hz' e
      go_wp2_with fail
      go_ret
      exact ⟨ret_int e'.out.symm, hK'.out⟩

theorem neq_run {a b c : Int} (h : ¬ (a = 0 ∧ b = 0 ∧ c = 0)) (W : World) : (binOp .eql 30 (.agg #[.int .i64 0, .int .i64 0, .int .i64 0]) (.agg #[.int .i64 a, .int .i64 b, .int .i64 c])).run Try.prog W = .ok (.bool false) W := by
  by_cases ha : a = 0
  · by_cases hb : b = 0
    · have hc : ¬ c = 0 := fun e => h ⟨ha, hb, e⟩
      subst ha; subst hb
      have hc' : ¬ 0 = c := fun e => hc e.symm
      simp [go_sem, hc']
    · subst ha
      have hb' : ¬ 0 = b := fun e => hb e.symm
      simp [go_sem, hb']
  · have ha' : ¬ 0 = a := fun e => ha e.symm
    simp [go_sem, ha']
set_option maxHeartbeats 4000000 in
/-- slices.Index over the table's places -/
theorem index27 {w : World} {tb : Nat} {E : TypeId} {keys : Int} {T : List Spc} (h : TabAt w tb E keys T) (hl : T.length = 16) :
    Calls Try.prog 27 #[.slice (some ⟨tb, 1, none⟩) 16 16, .agg #[.int .i64 0, .int .i64 0, .int .i64 0]] w fun e w' => e = .returned (.int .i64 (idx0 T 0)) ∧ Keeps Nil w w' := by
  have h' := Lib.hid h
  obtain ⟨z, hz⟩ : ∃ z, idx0 T 0 = z := ⟨_, rfl⟩
  have hz' := Lib.hid hz
  have hl' := Lib.hid hl
  rw [hz]
  clear h hz hl
  go_enter Try.func27, Try.ntmps27
  go_wp2_with fail
  go_loopw [5, 8] (fun _ c wx => ∃ q : Nat, q ≤ 16 ∧ c = .int .i64 q ∧ Hid (idx0 (T.drop q) q = z) ∧ Keeps Nil (w.alloc zblk) wx) (fun _ c _ => 16 - (intOf c).toNat)
  case atStart => exact ⟨0, by omega, rfl, Lib.hid (by simpa using hz'.out), Keeps.refl _ _⟩
  case round =>
    obtain ⟨q, hq, rfl, hI, hK⟩ := hrel
    have hK' := Lib.hid hK
    by_cases hlt : q < 16
    · obtain ⟨s, hs⟩ : ∃ s, T[q]? = some s := ⟨_, List.getElem?_eq_getElem (by rw [hl'.out]; exact hlt)⟩
      obtain ⟨c0, c1, c2⟩ := ((h'.out.keeps ((Keeps.refl Nil w).alloc zblk) (fun h => h)).keeps hK (fun h => h)).cells hs
      obtain ⟨d0, d1, d2, _⟩ := fresh3 hK
      have hi := idx0_drop (T := T) (q := q) (by rw [hl'.out]; exact hlt)
      rw [(List.getElem?_eq_some_iff.1 hs).2, hI.out] at hi
      have g1 : (0 : Int) ≤ (q : Int) := by omega
      have g2 : (q : Int) < 16 := by omega
      have hi' := Lib.hid hi
      have hs' := Lib.hid hs
      obtain ⟨a, b, c⟩ := s
      simp only at c0 c1 c2
      clear hi hK hs hI
      by_cases h0 : (⟨a, b, c⟩ : Spc) = sp0
      · have e0 : z = (q : Int) := by have := hi'.out; rwa [if_pos h0] at this
        have e0' := Lib.hid e0
        obtain ⟨rfl, rfl, rfl⟩ := (sp_eq _).1 h0
        clear h0 hi' hz' e0
        go_wp2_with fail
        go_quiet (fail)
        go_wp2_with fail
        go_ret
        exact ⟨ret_int e0'.out.symm, (((Keeps.refl Nil w).alloc _).trans hK'.out).drewN _⟩
      · have e0 : z = idx0 (T.drop (q + 1)) (q + 1) := by have := hi'.out; rwa [if_neg h0] at this
        have e0' := Lib.hid e0
        have h1 : ¬ (a = 0 ∧ b = 0 ∧ c = 0) := fun h => h0 ((sp_eq _).2 h)
        have hE := neq_run h1
        clear h0 hi' hz' e0 h1
        go_wp2_with fail
        go_quiet (fail)
        go_wp2_with fail
        go_roundw
        case rel => exact ⟨q + 1, by omega, by go_num, Lib.hid e0'.out.symm, hK'.out.drewN _⟩
        case measure => simp [intOf]; omega
    · have hqn : q = 16 := by omega
      have e : z = -1 := by rw [← hI.out, hqn, ← hl'.out, List.drop_length]; rfl
      have e' := Lib.hid e
      clear hK hI hz' e
      go_wp2_with fail
      go_ret
      exact ⟨ret_int e'.out.symm, ((Keeps.refl Nil w).alloc _).trans hK'.out⟩
end Go.Proofs.Ytmdgbcbnciaikaa
