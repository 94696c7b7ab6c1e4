/- made, of a record that may not be -/
import Derived.Test.YtmdgbcbnciaikaaN2
namespace Go.Proofs.Ytmdgbcbnciaikaa
open Go.RowKit

attribute [local go_sem ↓] Go.wp_at_zero Go.wp_at_succ

set_option maxHeartbeats 8000000 in
theorem made_bad {w : World} {tb : Nat} {E : TypeId} {keys : Int} {T : List Spc} (h : TabAt w tb E keys T) (hok : TabOk keys T) (hk0 : 1 ≤ keys) (hkm : keys ≤ 4096) {r : Rec} (hr : RecOk r) (hn : mayR keys T r = false) :
    Calls Try.prog 34 #[.pointer (some ⟨tb, 0, none⟩), recV r] w fun e w' => ∃ s, e = .returned (.tuple #[spV s, .bool false]) ∧ Keeps Nil w w' := by
  obtain ⟨_, _, a0, a1, b0, b1, c0, c1⟩ := hr
  unfold mayR at hn
  have hn2 := of_decide_eq_false hn
  obtain ⟨k, s, a, b, c⟩ := r
  simp only at a0 a1 b0 b1 c0 c1 hn2
  simp only [recV]
  have hW : Keeps Nil w ((w.alloc (.cells #[.int .i64 k, .int .u64 s, .int .u64 a, .int .u64 b, .int .u64 c] 48)).alloc zblk) := ((Keeps.refl Nil w).alloc _).alloc _
  have hT := h.keeps hW (fun h => h)
  simp only [zblk] at hT hW
  have ck := hT.key
  have hT' := Lib.hid hT
  have x1 : IntKind.u64.wrap keys = keys := by simp [IntKind.wrap, IntKind.signed, IntKind.bits]; omega
  have hfin := Lib.hid (fun n => hW.drewN n)
  clear hT h hn hW
  by_cases h1 : a < 1
  · clear hn2
    have dh1 : decide (a < 1) = true := decide_eq_true h1
    clear a0 a1 b0 b1 c0 c1 hk0 hkm hok h1
    go_enter Try.func34, Try.ntmps34
    go_wp2_with fail
    go_quiet (fail)
    go_wp2_with fail
    exact bodyPost_ret (v := .tuple #[spV sp0, .bool false]) (by simp [results, Try.results34, go_sem, spV, sp0]) rfl ⟨sp0, rfl, (hfin.out _).set3 (.inr (by simp)) _ _ _ _ _ _⟩
  by_cases h2 : 16 < a
  · clear hn2
    have dh1 : decide (a < 1) = false := decide_eq_false h1
    have dh2 : decide (16 < a) = true := decide_eq_true h2
    clear a0 a1 b0 b1 c0 c1 hk0 hkm hok h1 h2
    go_enter Try.func34, Try.ntmps34
    go_wp2_with fail
    go_quiet (fail)
    go_wp2_with fail
    exact bodyPost_ret (v := .tuple #[spV sp0, .bool false]) (by simp [results, Try.results34, go_sem, spV, sp0]) rfl ⟨sp0, rfl, (hfin.out _).set3 (.inr (by simp)) _ _ _ _ _ _⟩
  by_cases h3 : b < 1
  · clear hn2
    have dh1 : decide (a < 1) = false := decide_eq_false h1
    have dh2 : decide (16 < a) = false := decide_eq_false h2
    have dh3 : decide (b < 1) = true := decide_eq_true h3
    clear a0 a1 b0 b1 c0 c1 hk0 hkm hok h1 h2 h3
    go_enter Try.func34, Try.ntmps34
    go_wp2_with fail
    go_quiet (fail)
    go_wp2_with fail
    exact bodyPost_ret (v := .tuple #[spV sp0, .bool false]) (by simp [results, Try.results34, go_sem, spV, sp0]) rfl ⟨sp0, rfl, (hfin.out _).set3 (.inr (by simp)) _ _ _ _ _ _⟩
  by_cases h4 : keys < b
  · clear hn2
    have dh1 : decide (a < 1) = false := decide_eq_false h1
    have dh2 : decide (16 < a) = false := decide_eq_false h2
    have dh3 : decide (b < 1) = false := decide_eq_false h3
    have dh4 : decide (keys < b) = true := decide_eq_true h4
    clear a0 a1 b0 b1 c0 c1 hk0 hkm hok h1 h2 h3 h4
    go_enter Try.func34, Try.ntmps34
    go_wp2_with fail
    go_quiet (fail)
    go_wp2_with fail
    exact bodyPost_ret (v := .tuple #[spV sp0, .bool false]) (by simp [results, Try.results34, go_sem, spV, sp0]) rfl ⟨sp0, rfl, (hfin.out _).set3 (.inr (by simp)) _ _ _ _ _ _⟩
  have x2 : IntKind.u64.wrap (keys - b) = keys - b := by simp [IntKind.wrap, IntKind.signed, IntKind.bits]; omega
  by_cases h5 : keys - b < c
  · clear hn2
    have dh1 : decide (a < 1) = false := decide_eq_false h1
    have dh2 : decide (16 < a) = false := decide_eq_false h2
    have dh3 : decide (b < 1) = false := decide_eq_false h3
    have dh4 : decide (keys < b) = false := decide_eq_false h4
    have dh5 : decide (keys - b < c) = true := decide_eq_true h5
    clear a0 a1 b0 b1 c0 c1 hk0 hkm hok h1 h2 h3 h4 h5
    go_enter Try.func34, Try.ntmps34
    go_wp2_with fail
    go_quiet (fail)
    go_wp2_with fail
    exact bodyPost_ret (v := .tuple #[spV sp0, .bool false]) (by simp [results, Try.results34, go_sem, spV, sp0]) rfl ⟨sp0, rfl, (hfin.out _).set3 (.inr (by simp)) _ _ _ _ _ _⟩
  have h6 : ¬ tat T a = sp0 := fun e => hn2 ⟨by omega, by omega, by omega, by omega, by omega, e⟩
  obtain ⟨i, hi, rfl⟩ : ∃ i : Nat, i < 16 ∧ a = (i : Int) + 1 := ⟨(a - 1).toNat, by omega, by omega⟩
  have hg := tat_get hok.len hi
  obtain ⟨⟨u, v, y⟩, hs⟩ : ∃ s, tat T ((i : Int) + 1) = s := ⟨_, rfl⟩
  rw [hs] at hg h6
  obtain ⟨t0, t1, t2⟩ := hT'.out.cells hg
  have hne : ¬ (u = 0 ∧ v = 0 ∧ y = 0) := fun e => h6 ((sp_eq _).2 e)
  have hN := neq_run2 hne
  have x3 : IntKind.u64.wrap ((i : Int) + 1 - 1) = (i : Int) := by rw [show (i : Int) + 1 - 1 = i by omega]; simp [IntKind.wrap, IntKind.signed, IntKind.bits]; omega
  have g1 : (0 : Int) ≤ (i : Int) := by omega
  have g2 : (i : Int) < 16 := by omega
  have dh1 : decide ((i : Int) + 1 < 1) = false := decide_eq_false h1
  have dh2 : decide (16 < (i : Int) + 1) = false := decide_eq_false h2
  have dh3 : decide (b < 1) = false := decide_eq_false h3
  have dh4 : decide (keys < b) = false := decide_eq_false h4
  have dh5 : decide (keys - b < c) = false := decide_eq_false h5
  clear hn2 h6 hs hg hne hok h1 h2 h3 h4 h5 a0 a1 b0 b1 c0 c1 hk0 hkm
  go_enter Try.func34, Try.ntmps34
  go_wp2_with fail
  go_quiet (fail)
  go_wp2_with fail
  exact bodyPost_ret (v := .tuple #[spV sp0, .bool false]) (by simp [results, Try.results34, go_sem, spV, sp0]) rfl ⟨sp0, rfl, (hfin.out _).set3 (.inr (by simp)) _ _ _ _ _ _⟩
end Go.Proofs.Ytmdgbcbnciaikaa
