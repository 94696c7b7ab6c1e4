/- nand: may a shape be? -/
import Derived.Test.YtglpacdenfoicaaNdR
namespace Go.Proofs.Ytglpacdenfoicaa
open Go.RowKit

theorem in53_t {n most : Int} (h1 : 1 ≤ n) (h2 : n ≤ most) (w : World) : Calls Try.prog 53 #[.int .i64 n, .int .i64 most] w fun e w' => e = .returned (.bool true) ∧ w' = w := by
  go_enter Try.func53, Try.ntmps53
  go_wp2_with fail
  go_ret
  exact ⟨rfl, rfl⟩
theorem in53_f {n most : Int} (h : ¬ (1 ≤ n ∧ n ≤ most)) (w : World) : Calls Try.prog 53 #[.int .i64 n, .int .i64 most] w fun e w' => e = .returned (.bool false) ∧ w' = w := by
  by_cases h1 : 1 ≤ n
  · have h2 : ¬ n ≤ most := fun e => h ⟨h1, e⟩
    clear h
    go_enter Try.func53, Try.ntmps53
    go_wp2_with fail
    go_ret
    exact ⟨rfl, rfl⟩
  · clear h
    go_enter Try.func53, Try.ntmps53
    go_wp2_with fail
    go_ret
    exact ⟨rfl, rfl⟩
structure FitsI (d b p n : Int) : Prop where
  hd : 1 ≤ d ∧ d ≤ 8
  hb : 1 ≤ b ∧ b ≤ 64
  hp : 1 ≤ p ∧ p ≤ 64
  hn : 1 ≤ n ∧ n ≤ 4096
  all : d * b * p * n ≤ 4194304
theorem mul_small {d b p n : Int} (hd : 1 ≤ d ∧ d ≤ 8) (hb : 1 ≤ b ∧ b ≤ 64) (hp : 1 ≤ p ∧ p ≤ 64) (hn : 1 ≤ n ∧ n ≤ 4096) :
    (0 ≤ d * b ∧ d * b ≤ 512) ∧ (0 ≤ d * b * p ∧ d * b * p ≤ 32768) ∧ (0 ≤ d * b * p * n ∧ d * b * p * n ≤ 134217728) := by
  have a0 := Int.mul_nonneg (show 0 ≤ d by omega) (show 0 ≤ b by omega)
  have a1 : d * b ≤ 8 * 64 := Int.mul_le_mul hd.2 hb.2 (by omega) (by omega)
  have b0 := Int.mul_nonneg a0 (show 0 ≤ p by omega)
  have b1 : d * b * p ≤ 512 * 64 := Int.mul_le_mul (by omega) hp.2 (by omega) (by omega)
  have c0 := Int.mul_nonneg b0 (show 0 ≤ n by omega)
  have c1 : d * b * p * n ≤ 32768 * 4096 := Int.mul_le_mul (by omega) hn.2 (by omega) (by omega)
  exact ⟨⟨a0, by omega⟩, ⟨b0, by omega⟩, ⟨c0, by omega⟩⟩
set_option maxHeartbeats 2000000 in
set_option maxRecDepth 100000 in
theorem fits25_t {d b p n : Int} (h : FitsI d b p n) (w : World) : Calls Try.prog 25 #[.agg #[.int .i64 d, .int .i64 b, .int .i64 p, .int .i64 n]] w fun e w' => e = .returned (.bool true) ∧ Keeps Nil w w' := by
  obtain ⟨m1, m2, m3⟩ := mul_small h.hd h.hb h.hp h.hn
  have hk := Lib.hid ((Keeps.refl Nil w).alloc (.cells #[.int .i64 d, .int .i64 b, .int .i64 p, .int .i64 n] 31))
  have i1 := Lib.hid (in53_t h.hd.1 h.hd.2)
  have i2 := Lib.hid (in53_t h.hb.1 h.hb.2)
  have i3 := Lib.hid (in53_t h.hp.1 h.hp.2)
  have i4 := Lib.hid (in53_t h.hn.1 h.hn.2)
  have hall := h.all
  have w1 : IntKind.i64.wrap (d * b) = d * b := by rw [IntKind.wrap_i64]; omega
  have w2 : IntKind.i64.wrap (d * b * p) = d * b * p := by rw [IntKind.wrap_i64]; omega
  have w3 : IntKind.i64.wrap (d * b * p * n) = d * b * p * n := by rw [IntKind.wrap_i64]; omega
  clear h m1 m2 m3
  go_enter Try.func25, Try.ntmps25
  go_wp2_with fail
  refine (i1.out _).mono ?_
  rintro e w9 ⟨rfl, h9⟩
  rw [h9]; clear h9 w9
  go_wp2_with fail
  refine (i2.out _).mono ?_
  rintro e w9 ⟨rfl, h9⟩
  rw [h9]; clear h9 w9
  go_wp2_with fail
  refine (i3.out _).mono ?_
  rintro e w9 ⟨rfl, h9⟩
  rw [h9]; clear h9 w9
  go_wp2_with fail
  refine (i4.out _).mono ?_
  rintro e w9 ⟨rfl, h9⟩
  rw [h9]; clear h9 w9
  go_wp2_with fail
  go_ret
  exact ⟨rfl, hk.out⟩
end Go.Proofs.Ytglpacdenfoicaa
