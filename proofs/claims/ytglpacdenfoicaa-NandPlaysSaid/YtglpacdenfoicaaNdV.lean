/- nand: may a shape be? no; Shape -/
import Derived.Test.YtglpacdenfoicaaNdU
namespace Go.Proofs.Ytglpacdenfoicaa
open Go.RowKit

variable {w w' : World} {ab bb bc fc : Nat} {db : Nat → Nat} {pb : Nat → Nat → Nat} {fa : Option Addr} {L : List Fx} {A A' : Nd} {O T : Nat → Prop}
theorem fits25_f0 {d b p n : Int}  (hno : ¬ (1 ≤ d ∧ d ≤ 8)) (w : World) : Calls Try.prog 25 #[.agg #[.int .i64 d, .int .i64 b, .int .i64 p, .int .i64 n]] w fun e w' => e = .returned (.bool false) ∧ Keeps Nil w w' := by
  have hk := Lib.hid ((Keeps.refl Nil w).alloc (.cells #[.int .i64 d, .int .i64 b, .int .i64 p, .int .i64 n] 31))
  have i0 := Lib.hid (in53_f hno)
  clear hno 
  go_enter Try.func25, Try.ntmps25
  go_wp2_with fail
  refine (i0.out _).mono ?_
  rintro e w9 ⟨rfl, h9⟩
  rw [h9]; clear h9 w9
  go_wp2_with fail
  go_ret
  exact ⟨rfl, hk.out⟩
theorem fits25_f1 {d b p n : Int} (hd : 1 ≤ d ∧ d ≤ 8) (hno : ¬ (1 ≤ b ∧ b ≤ 64)) (w : World) : Calls Try.prog 25 #[.agg #[.int .i64 d, .int .i64 b, .int .i64 p, .int .i64 n]] w fun e w' => e = .returned (.bool false) ∧ Keeps Nil w w' := by
  have hk := Lib.hid ((Keeps.refl Nil w).alloc (.cells #[.int .i64 d, .int .i64 b, .int .i64 p, .int .i64 n] 31))
  have i0 := Lib.hid (in53_t hd.1 hd.2)
  have i1 := Lib.hid (in53_f hno)
  clear hno hd
  go_enter Try.func25, Try.ntmps25
  go_wp2_with fail
  refine (i0.out _).mono ?_
  rintro e w9 ⟨rfl, h9⟩
  rw [h9]; clear h9 w9
  go_wp2_with fail
  refine (i1.out _).mono ?_
  rintro e w9 ⟨rfl, h9⟩
  rw [h9]; clear h9 w9
  go_wp2_with fail
  go_ret
  exact ⟨rfl, hk.out⟩
theorem fits25_f2 {d b p n : Int} (hd : 1 ≤ d ∧ d ≤ 8) (hb : 1 ≤ b ∧ b ≤ 64) (hno : ¬ (1 ≤ p ∧ p ≤ 64)) (w : World) : Calls Try.prog 25 #[.agg #[.int .i64 d, .int .i64 b, .int .i64 p, .int .i64 n]] w fun e w' => e = .returned (.bool false) ∧ Keeps Nil w w' := by
  have hk := Lib.hid ((Keeps.refl Nil w).alloc (.cells #[.int .i64 d, .int .i64 b, .int .i64 p, .int .i64 n] 31))
  have i0 := Lib.hid (in53_t hd.1 hd.2)
  have i1 := Lib.hid (in53_t hb.1 hb.2)
  have i2 := Lib.hid (in53_f hno)
  clear hno hd hb
  go_enter Try.func25, Try.ntmps25
  go_wp2_with fail
  refine (i0.out _).mono ?_
  rintro e w9 ⟨rfl, h9⟩
  rw [h9]; clear h9 w9
  go_wp2_with fail
  refine (i1.out _).mono ?_
  rintro e w9 ⟨rfl, h9⟩
  rw [h9]; clear h9 w9
  go_wp2_with fail
  refine (i2.out _).mono ?_
  rintro e w9 ⟨rfl, h9⟩
  rw [h9]; clear h9 w9
  go_wp2_with fail
  go_ret
  exact ⟨rfl, hk.out⟩
theorem fits25_f3 {d b p n : Int} (hd : 1 ≤ d ∧ d ≤ 8) (hb : 1 ≤ b ∧ b ≤ 64) (hp : 1 ≤ p ∧ p ≤ 64) (hno : ¬ (1 ≤ n ∧ n ≤ 4096)) (w : World) : Calls Try.prog 25 #[.agg #[.int .i64 d, .int .i64 b, .int .i64 p, .int .i64 n]] w fun e w' => e = .returned (.bool false) ∧ Keeps Nil w w' := by
  have hk := Lib.hid ((Keeps.refl Nil w).alloc (.cells #[.int .i64 d, .int .i64 b, .int .i64 p, .int .i64 n] 31))
  have i0 := Lib.hid (in53_t hd.1 hd.2)
  have i1 := Lib.hid (in53_t hb.1 hb.2)
  have i2 := Lib.hid (in53_t hp.1 hp.2)
  have i3 := Lib.hid (in53_f hno)
  clear hno hd hb hp
  go_enter Try.func25, Try.ntmps25
  go_wp2_with fail
  refine (i0.out _).mono ?_
  rintro e w9 ⟨rfl, h9⟩
  rw [h9]; clear h9 w9
  go_wp2_with fail
  refine (i1.out _).mono ?_
  rintro e w9 ⟨rfl, h9⟩
  rw [h9]; clear h9 w9
  go_wp2_with fail
  refine (i2.out _).mono ?_
  rintro e w9 ⟨rfl, h9⟩
  rw [h9]; clear h9 w9
  go_wp2_with fail
  refine (i3.out _).mono ?_
  rintro e w9 ⟨rfl, h9⟩
  rw [h9]; clear h9 w9
  go_wp2_with fail
  go_ret
  exact ⟨rfl, hk.out⟩
theorem fits25_f4 {d b p n : Int} (hd : 1 ≤ d ∧ d ≤ 8) (hb : 1 ≤ b ∧ b ≤ 64) (hp : 1 ≤ p ∧ p ≤ 64) (hn : 1 ≤ n ∧ n ≤ 4096) (hall : ¬ d * b * p * n ≤ 4194304) (w : World) : Calls Try.prog 25 #[.agg #[.int .i64 d, .int .i64 b, .int .i64 p, .int .i64 n]] w fun e w' => e = .returned (.bool false) ∧ Keeps Nil w w' := by
  obtain ⟨m1, m2, m3⟩ := mul_small hd hb hp hn
  have hk := Lib.hid ((Keeps.refl Nil w).alloc (.cells #[.int .i64 d, .int .i64 b, .int .i64 p, .int .i64 n] 31))
  have i0 := Lib.hid (in53_t hd.1 hd.2)
  have i1 := Lib.hid (in53_t hb.1 hb.2)
  have i2 := Lib.hid (in53_t hp.1 hp.2)
  have i3 := Lib.hid (in53_t hn.1 hn.2)
  have w1 : IntKind.i64.wrap (d * b) = d * b := by rw [IntKind.wrap_i64]; omega
  have w2 : IntKind.i64.wrap (d * b * p) = d * b * p := by rw [IntKind.wrap_i64]; omega
  have w3 : IntKind.i64.wrap (d * b * p * n) = d * b * p * n := by rw [IntKind.wrap_i64]; omega
  clear hd hb hp hn m1 m2 m3
  go_enter Try.func25, Try.ntmps25
  go_wp2_with fail
  refine (i0.out _).mono ?_
  rintro e w9 ⟨rfl, h9⟩
  rw [h9]; clear h9 w9
  go_wp2_with fail
  refine (i1.out _).mono ?_
  rintro e w9 ⟨rfl, h9⟩
  rw [h9]; clear h9 w9
  go_wp2_with fail
  refine (i2.out _).mono ?_
  rintro e w9 ⟨rfl, h9⟩
  rw [h9]; clear h9 w9
  go_wp2_with fail
  refine (i3.out _).mono ?_
  rintro e w9 ⟨rfl, h9⟩
  rw [h9]; clear h9 w9
  go_wp2_with fail
  go_ret
  refine ⟨?_, hk.out⟩
  show Ending.returned (Value.bool (decide (d * b * p * n ≤ 4194304))) = _
  rw [decide_eq_false (Int.not_le.mpr hall)]
theorem fits25_f {d b p n : Int} (h : ¬ FitsI d b p n) (w : World) : Calls Try.prog 25 #[.agg #[.int .i64 d, .int .i64 b, .int .i64 p, .int .i64 n]] w fun e w' => e = .returned (.bool false) ∧ Keeps Nil w w' := by
  by_cases hd : 1 ≤ d ∧ d ≤ 8
  · by_cases hb : 1 ≤ b ∧ b ≤ 64
    · by_cases hp : 1 ≤ p ∧ p ≤ 64
      · by_cases hn : 1 ≤ n ∧ n ≤ 4096
        · by_cases hall : d * b * p * n ≤ 4194304
          · exact absurd ⟨hd, hb, hp, hn, hall⟩ h
          · exact fits25_f4 hd hb hp hn hall w
        · exact fits25_f3 hd hb hp hn w
      · exact fits25_f2 hd hb hp w
    · exact fits25_f1 hd hb w
  · exact fits25_f0 hd w
theorem marked51_out (h : NdB w ab A bb bc db pb fa fc L O) (d n : Int) (hno : d < 0 ∨ (A.S.dies : Int) ≤ d ∨ n < 0 ∨ (A.S.blocks : Int) ≤ n) : Calls Try.prog 51 #[.pointer (some ⟨ab, 0, none⟩), .int .i64 d, .int .i64 n] w fun e w' => e = .returned (.bool false) ∧ Keeps Nil w w' := by
  have hAt := Lib.hid (at_out h d n hno)
  clear h hno
  go_enter Try.func51, Try.ntmps51
  go_wp2_with fail
  refine (hAt.out).mono ?_
  rintro e w1 ⟨rfl, hw1⟩
  rw [hw1]
  clear hw1
  go_wp2_with fail
  go_ret
  exact ⟨rfl, Keeps.refl _ _⟩
theorem marked51 (h : NdB w ab A bb bc db pb fa fc L O) (hlen : A.F.length ≤ 2000) {d n : Nat} (hd : d < A.S.dies) (hn : n < A.S.blocks) : Calls Try.prog 51 #[.pointer (some ⟨ab, 0, none⟩), .int .i64 (d : Nat), .int .i64 (n : Nat)] w fun e w' => e = .returned (.bool (A.struck 0 6 d n)) ∧ Keeps Nil w w' := by
  have hAt := Lib.hid (at_in h hd hn)
  have hS := Lib.hid (struck56 h hlen 0 6 d n)
  obtain ⟨v, hv⟩ : ∃ v, A.struck 0 6 d n = v := ⟨_, rfl⟩
  rw [hv] at hS ⊢
  clear h hlen hd hn hv
  go_enter Try.func51, Try.ntmps51
  go_wp2_with fail
  refine (hAt.out).mono ?_
  rintro e w1 ⟨rfl, hw1⟩
  rw [hw1]
  clear hw1
  go_wp2_with fail
  refine (hS.out).mono ?_
  rintro e w1 ⟨rfl, hw1⟩
  go_wp2_with fail
  go_ret
  exact ⟨rfl, hw1⟩
end Go.Proofs.Ytglpacdenfoicaa
