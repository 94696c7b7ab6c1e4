/- nand: may a fault be? -/
import Derived.Test.YtglpacdenfoicaaNdE
namespace Go.Proofs.Ytglpacdenfoicaa
open Go.RowKit

/-- the first place at which a test of numbers holds -/
def firstI (p : Int → Bool) : List Int → Nat → Int
  | [], _ => -1
  | f :: r, k => if p f then (k : Int) else firstI p r (k + 1)
theorem firstI_any {p : Int → Bool} : ∀ {L : List Int} {k : Nat}, decide (0 ≤ firstI p L k) = L.any p
  | [], _ => rfl
  | f :: r, k => by
    unfold firstI
    rw [List.any_cons]
    split
    · rename_i h; rw [h]; simp
    · rename_i h; rw [firstI_any (L := r)]; simp [h]
set_option maxHeartbeats 2000000 in
set_option maxRecDepth 100000 in
/-- slices.IndexFunc over numbers, for whatever test -/
theorem index69 {fp : FuncId} {caps : Array Value} {p : Int → Bool} {w : World} {a : Option Addr} {c : Nat} {xs : List Int} (hen : ∀ args w, (callFunc fp args).run Try.prog w = .ok (.enter fp args) w) (hL : NumsAt .i64 w a xs) (hm : xs.length ≤ 140737488351232)
    (hP : ∀ x ∈ xs, ∀ W, Keeps Nil w W → Calls Try.prog fp (#[.int .i64 x] ++ caps) W
      fun e w' => e = .returned (.bool (p x)) ∧ Keeps Nil W w') :
    Calls Try.prog 69 #[.slice a xs.length c, .func (.func fp) #[] caps] w fun e w' => e = .returned (.int .i64 (firstI p xs 0)) ∧ Keeps Nil w w' := by
  have hL' := Lib.hid hL
  have hP' := Lib.hid hP
  clear hL hP
  go_enter Try.func69, Try.ntmps69
  go_wp2_with fail
  go_loopw [8] (fun i wr => ∃ k : Nat, k ≤ xs.length ∧ i = .int .i64 k ∧ Keeps Nil w wr ∧ Hid (firstI p xs 0 = firstI p (xs.drop k) k)) (fun i _ => xs.length - (intOf i).toNat)
  case atStart => exact ⟨0, Nat.zero_le _, rfl, Keeps.refl _ _, rfl⟩
  case round =>
    obtain ⟨k, hk, rfl, hkp, hrel⟩ := hrel
    by_cases hlt : k < xs.length
    · obtain ⟨g, off, rfl, hc⟩ := hL'.out k hlt
      have c0 := hkp.cell hc (fun h => h)
      have hC := Lib.hid (hP'.out (gi xs k) (by rw [gi_eq hlt]; exact List.getElem_mem hlt) wr hkp)
      have hd : xs.drop k = gi xs k :: (xs.drop (k + 1)) := by rw [List.drop_eq_getElem_cons hlt, gi_eq hlt]
      have hrel' := Lib.hid (hrel.out.trans (by rw [hd]))
      have hkp' := Lib.hid hkp
      obtain ⟨x, hx⟩ : ∃ x, gi xs k = x := ⟨_, rfl⟩
      rw [hx] at hC hrel' c0
      obtain ⟨b, hb⟩ : ∃ b, p x = b := ⟨_, rfl⟩
      rw [hb] at hC
      have hb' := Lib.hid hb
      clear hc hkp hd hrel hx hb
      cases b with
      | false =>
        go_wp2_with fail
        refine (hC.out).mono ?_
        rintro e w1 ⟨rfl, k1⟩
        have k1' := Lib.hid k1
        clear k1
        go_wp2_with fail
        go_roundw
        case rel => exact ⟨k + 1, by omega, by go_num, hkp'.out.trans k1'.out, Lib.hid (by rw [hrel'.out, firstI, hb'.out]; rfl)⟩
        case measure => simp [intOf]; omega
      | true =>
        go_wp2_with fail
        refine (hC.out).mono ?_
        rintro e w1 ⟨rfl, k1⟩
        have k1' := Lib.hid k1
        clear k1
        go_wp2_with fail
        go_ret
        rw [hrel'.out, firstI, hb'.out]
        exact ⟨rfl, hkp'.out.trans k1'.out⟩
    · have hkl : k = xs.length := by omega
      have hend : firstI p (xs.drop k) k = -1 := by rw [List.drop_eq_nil_of_le (by omega)]; rfl
      have hrel' := Lib.hid (hrel.out.trans hend)
      have hkp' := Lib.hid hkp
      clear hkp hrel hend hkl
      go_wp2_with fail
      go_ret
      rw [hrel'.out]
      exact ⟨rfl, hkp'.out⟩
set_option maxHeartbeats 2000000 in
set_option maxRecDepth 100000 in
theorem contains54 {fp : FuncId} {caps : Array Value} {p : Int → Bool} {w : World} {a : Option Addr} {c : Nat} {xs : List Int} (hen : ∀ args w, (callFunc fp args).run Try.prog w = .ok (.enter fp args) w) (hL : NumsAt .i64 w a xs) (hm : xs.length ≤ 140737488351232)
    (hP : ∀ x ∈ xs, ∀ W, Keeps Nil w W → Calls Try.prog fp (#[.int .i64 x] ++ caps) W
      fun e w' => e = .returned (.bool (p x)) ∧ Keeps Nil W w') :
    Calls Try.prog 54 #[.slice a xs.length c, .func (.func fp) #[] caps] w fun e w' => e = .returned (.bool (xs.any p)) ∧ Keeps Nil w w' := by
  have hC := Lib.hid (index69 (c := c) hen hL hm hP)
  obtain ⟨i, hi⟩ : ∃ i, firstI p xs 0 = i := ⟨_, rfl⟩
  have ha := firstI_any (p := p) (L := xs) (k := 0)
  rw [hi] at hC ha
  rw [← ha]
  clear hL hm hP hen hi ha
  go_enter Try.func54, Try.ntmps54
  go_wp2_with fail
  refine (hC.out).mono ?_
  rintro e w1 ⟨rfl, k1⟩
  have k1' := Lib.hid k1
  clear k1
  go_wp2_with fail
  go_ret
  exact ⟨rfl, k1'.out⟩
def outB (n : Nat) (k : Int) : Bool := decide (k < 0) || decide (8 * (n : Int) ≤ k)
theorem enter55 (args : Array Value) (w : World) : (callFunc 55 args).run Try.prog w = .ok (.enter 55 args) w := by kernel_rfl
theorem out55 {w : World} {g n : Nat} {k : Int} (hn : n ≤ 4096) (hc : w.cell? ⟨g, 3, none⟩ = some (.int .i64 (n : Nat))) : Calls Try.prog 55 #[.int .i64 k, .pointer (some ⟨g, 0, none⟩)] w fun e w' => e = .returned (.bool (outB n k)) ∧ Keeps Nil w w' := by
  have hw : IntKind.i64.wrap (8 * (n : Int)) = 8 * (n : Int) := by rw [IntKind.wrap_i64]; omega
  by_cases h1 : k < 0
  · have hr : outB n k = true := by unfold outB; simp [h1]
    rw [hr]
    clear hr hn hw
    go_enter Try.func55, Try.ntmps55
    go_wp2_with fail
    go_ret
    exact ⟨rfl, Keeps.refl _ _⟩
  · have hr : outB n k = decide (8 * (n : Int) ≤ k) := by unfold outB; simp [h1]
    rw [hr]
    clear hr hn
    go_enter Try.func55, Try.ntmps55
    go_wp2_with fail
    go_ret
    exact ⟨rfl, Keeps.refl _ _⟩
end Go.Proofs.Ytglpacdenfoicaa
