/- same, rows of the law -/
import Derived.Test.YtnickcjkipemmaaRefA
namespace Go.Proofs.Ytnickcjkipemmaa
open Go.RowKit

attribute [local go_sem ↓] Go.wp_at_zero Go.wp_at_succ

set_option maxHeartbeats 4000000 in
theorem same22 (w : World) (x : Ent) : Calls Try.prog 22 #[entV x, entV x] w fun e w' => e = .returned (.bool true) ∧ Keeps Nil w w' := by
  obtain ⟨kx, vx, dx⟩ := x
  simp only [entV]
  go_enter Try.func22, Try.ntmps22
  go_wp2_with fail
  go_ret
  exact ⟨by simp, ((Keeps.refl Nil w).alloc _).alloc _⟩

set_option maxHeartbeats 4000000 in
theorem rows24 {w : World} {a b : Option Addr} {ca cb : Nat} {L : List Ent} (ha : EntRow w 32 a ca L) (hb : EntRow w 54 b cb L) (hl : L.length ≤ 1000000) :
    Calls Try.prog 24 #[.slice a L.length ca, .slice b L.length cb] w fun e w' => e = .returned (.bool true) ∧ Keeps Nil w w' := by
  have ha' := Lib.hid ha
  have hb' := Lib.hid hb
  obtain ⟨n, hn⟩ : ∃ n, L.length = n := ⟨_, rfl⟩
  have hn' := Lib.hid hn
  rw [hn] at hl ⊢
  clear ha hb hn
  go_enter Try.func24, Try.ntmps24
  go_wp2_with fail
  go_loopw [5, 6] (fun c _ wx => ∃ q : Nat, q ≤ n ∧ c = .int .i64 q ∧ Keeps Nil w wx) (fun c _ _ => n - (intOf c).toNat)
  case atStart => exact ⟨0, Nat.zero_le _, rfl, Keeps.refl _ _⟩
  case round =>
    obtain ⟨q, hq, rfl, hK⟩ := hrel
    have hK' := Lib.hid hK
    by_cases hlt : q < n
    · obtain ⟨g, rfl, ea⟩ := EntRow.at' ha'.out (by rw [hn'.out]; exact hlt)
      obtain ⟨g2, rfl, eb⟩ := EntRow.at' hb'.out (by rw [hn'.out]; exact hlt)
      obtain ⟨x, hx⟩ : ∃ x, L.getD q ent0 = x := ⟨_, rfl⟩
      rw [hx] at ea eb
      obtain ⟨kx, vx, dx⟩ := x
      have a0 := ea.key
      have a1 := ea.val
      have a2 := ea.dirty
      have b0 := eb.key
      have b1 := eb.val
      have b2 := eb.dirty
      have hS := Lib.hid (fun W => same22 W ⟨kx, vx, dx⟩)
      simp only [entV] at hS
      have hLC := Lib.hid (show ∀ W, Keeps Nil wr W → W.cell? ⟨g, q * 3, none⟩ = some (.int .i64 kx) ∧ W.cell? ⟨g, q * 3 + 1, none⟩ = some (.int .u64 vx) ∧ W.cell? ⟨g, q * 3 + 2, none⟩ = some (.bool dx) ∧ W.cell? ⟨g2, q * 3, none⟩ = some (.int .i64 kx) ∧ W.cell? ⟨g2, q * 3 + 1, none⟩ = some (.int .u64 vx) ∧ W.cell? ⟨g2, q * 3 + 2, none⟩ = some (.bool dx) from fun W hk => by
        have h := hK.trans hk
        exact ⟨h.cell a0 (fun h => h), h.cell a1 (fun h => h), h.cell a2 (fun h => h), h.cell b0 (fun h => h), h.cell b1 (fun h => h), h.cell b2 (fun h => h)⟩)
      have g1 : (0 : Int) ≤ (q : Int) := by omega
      have g2' : (q : Int) < (n : Int) := by omega
      clear hK ea eb hx a0 a1 a2 b0 b1 b2
      go_wp2_with fail
      go_region_held3 (fun W => W.cell? ⟨g, q * 3, none⟩ = some (.int .i64 kx) ∧ W.cell? ⟨g, q * 3 + 1, none⟩ = some (.int .u64 vx) ∧ W.cell? ⟨g, q * 3 + 2, none⟩ = some (.bool dx) ∧ W.cell? ⟨g2, q * 3, none⟩ = some (.int .i64 kx) ∧ W.cell? ⟨g2, q * 3 + 1, none⟩ = some (.int .u64 vx) ∧ W.cell? ⟨g2, q * 3 + 2, none⟩ = some (.bool dx)) ((refine hLC.out _ ?_; first | exact (Keeps.refl Nil wr).drew | exact hk5'.out)) ((go_at_call 22; refine (hS.out _).mono ?_; rintro e w5 ⟨rfl, hk5⟩; have hk5' := Lib.hid ((Keeps.refl Nil wr).drew.trans hk5); clear hk5))
      go_wp2_with fail
      go_roundw
      case rel => exact ⟨q + 1, by omega, by go_num, hK'.out.trans hk5'.out⟩
      case measure => simp [intOf]; omega
    · clear hK
      go_wp2_with fail
      go_ret
      exact ⟨rfl, hK'.out⟩
end Go.Proofs.Ytnickcjkipemmaa
