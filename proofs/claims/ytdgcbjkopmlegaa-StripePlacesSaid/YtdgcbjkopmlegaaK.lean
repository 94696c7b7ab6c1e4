/- StripePlaces: the walk -/
import Derived.Test.YtdgcbjkopmlegaaJ
import Derived.Test.YtdgcbjkopmlegaaMaps
namespace Go.Proofs.Ytdgcbjkopmlegaa
open Go.RowKit

attribute [local go_sem ↓] Go.wp_at_zero Go.wp_at_succ

/-- the places of so many rows from one on, each once -/
def plKeys (row width : Int) : Nat → List (Int × Value)
  | 0 => []
  | q + 1 => plKeys row width q ++ [(width - 1 - (row + q) % width, .int .i64 1)]
theorem plKeys_len (row width : Int) : ∀ q, (plKeys row width q).length = q
  | 0 => rfl
  | q + 1 => by simp [plKeys, plKeys_len row width q]
theorem plKeys_mem {row width : Int} : ∀ {q : Nat} {k : Int}, k ∈ mkeys (plKeys row width q) → ∃ j : Nat, j < q ∧ k = width - 1 - (row + j) % width
  | 0, k, h => by simp [plKeys, mkeys] at h
  | q + 1, k, h => by
    simp only [plKeys, mkeys, List.map_append, List.map_cons, List.map_nil, List.mem_append, List.mem_singleton] at h
    rcases h with h | h
    · obtain ⟨j, h1, h2⟩ := plKeys_mem (q := q) h
      exact ⟨j, by omega, h2⟩
    · exact ⟨q, by omega, h⟩
theorem mod_apart {row width : Int} {j q : Nat} (hw : 2 ≤ width) (hj : j < q) (hq : (q : Int) < width) : (row + j) % width ≠ (row + q) % width := by
  intro e
  have h1 := Int.emod_emod_of_dvd (row + q) (Int.dvd_refl width)
  have h2 : ((row + q) - (row + j)) % width = 0 := by
    rw [Int.sub_emod, e, Int.sub_self, Int.zero_emod]
  have h3 : (row + q) - (row + j) = ((q - j : Nat) : Int) := by omega
  rw [h3] at h2
  have h4 : ((q - j : Nat) : Int) % width = ((q - j : Nat) : Int) := Int.emod_eq_of_lt (by omega) (by omega)
  rw [h4] at h2
  omega
theorem plKeys_step {row width : Int} {q : Nat} (hw : 2 ≤ width) (hq : (q : Int) < width) : mset (width - 1 - (row + q) % width) (.int .i64 1) (plKeys row width q) = plKeys row width (q + 1) := by
  rw [mset_new]
  · rfl
  · intro hm
    obtain ⟨j, h1, h2⟩ := plKeys_mem hm
    exact mod_apart (row := row) hw h1 hq (by omega)

set_option maxHeartbeats 4000000 in
set_option maxRecDepth 100000 in
theorem places3 (row width : Int) (w : World) (h0 : -9223372036854775808 ≤ row) (h1 : row ≤ 9223372036854775807) (g0 : -9223372036854775808 ≤ width) (g1 : width ≤ 9223372036854775807) :
    Calls Try.prog 3 #[.int .i64 row, .int .i64 width] w fun e w' => e = .returned (.bool true) ∧ Keeps Nil w w' := by
  have hA := Lib.hid (fun W => place10 row width W h1)
  have hB := Lib.hid (fun W => place11 row width W h1)
  obtain ⟨p, hp⟩ : ∃ p, plF row width = p := ⟨_, rfl⟩
  rw [hp] at hA hB
  have e1 : (p != p) = false := by simp
  have hmk := @run_makeMap Try.prog
  clear hp
  by_cases ho : row < 0 ∨ width < 2 ∨ 255 < width
  · by_cases a1 : row < 0
    · have d1 := decide_eq_true a1
      clear ho
      go_enter Try.func3, Try.ntmps3
      go_wp2_with fail
      refine (awake9 w).mono ?_
      rintro e w1 ⟨rfl, hk1⟩
      have hk1' := Lib.hid hk1
      clear hk1
      go_wp2_with fail
      refine (hA.out _).mono ?_
      rintro e w2 ⟨rfl, rfl⟩
      go_wp2_with fail
      refine (hB.out _).mono ?_
      rintro e w2 ⟨rfl, rfl⟩
      go_wp2_with fail
      go_ret
      exact ⟨rfl, hk1'.out⟩
    · have d1 := decide_eq_false a1
      by_cases a2 : width < 2
      · have d2 := decide_eq_true a2
        clear ho
        go_enter Try.func3, Try.ntmps3
        go_wp2_with fail
        refine (awake9 w).mono ?_
        rintro e w1 ⟨rfl, hk1⟩
        have hk1' := Lib.hid hk1
        clear hk1
        go_wp2_with fail
        refine (hA.out _).mono ?_
        rintro e w2 ⟨rfl, rfl⟩
        go_wp2_with fail
        refine (hB.out _).mono ?_
        rintro e w2 ⟨rfl, rfl⟩
        go_wp2_with fail
        go_ret
        exact ⟨rfl, hk1'.out⟩
      · have d2 := decide_eq_false a2
        have d3 : decide (255 < width) = true := decide_eq_true (by omega)
        clear ho
        go_enter Try.func3, Try.ntmps3
        go_wp2_with fail
        refine (awake9 w).mono ?_
        rintro e w1 ⟨rfl, hk1⟩
        have hk1' := Lib.hid hk1
        clear hk1
        go_wp2_with fail
        refine (hA.out _).mono ?_
        rintro e w2 ⟨rfl, rfl⟩
        go_wp2_with fail
        refine (hB.out _).mono ?_
        rintro e w2 ⟨rfl, rfl⟩
        go_wp2_with fail
        go_ret
        exact ⟨rfl, hk1'.out⟩
  · have d1 : decide (row < 0) = false := decide_eq_false (by omega)
    have d2 : decide (width < 2) = false := decide_eq_false (by omega)
    have d3 : decide (255 < width) = false := decide_eq_false (by omega)
    have b1 : 0 ≤ row := by omega
    have b2 : 2 ≤ width := by omega
    have b3 : width ≤ 255 := by omega
    obtain ⟨r, hr⟩ : ∃ r, row % 1000000 = r := ⟨_, rfl⟩
    have br1 : 0 ≤ r := by omega
    have br2 : r < 1000000 := by omega
    have hC := Lib.hid (show ∀ (q : Nat) (W : World), (q : Int) < width → Calls Try.prog 10 #[.int .i64 (r + q), .int .i64 width] W fun e w' => e = .returned (.int .i64 (width - 1 - (r + q) % width)) ∧ W = w' from fun q W hq => by
      have := place10 (r + q) width W (by omega)
      rw [plF_in (decide_eq_false (by omega))] at this
      exact this)
    clear ho
    go_enter Try.func3, Try.ntmps3
    go_wp2_with fail
    refine (awake9 w).mono ?_
    rintro e w1 ⟨rfl, hk1⟩
    have hk1' := Lib.hid hk1
    clear hk1
    go_wp2_with fail
    refine (hA.out _).mono ?_
    rintro e w2 ⟨rfl, rfl⟩
    go_wp2_with fail
    refine (hB.out _).mono ?_
    rintro e w2 ⟨rfl, rfl⟩
    go_wp2_with fail
    rw [hr]
    clear hr
    obtain ⟨tb, htb⟩ : ∃ tb : Nat, tb = w1.heap.size := ⟨_, rfl⟩
    rw [← htb]
    have hM0 := Lib.hid (show MapAt (w1.alloc (.map #[] 0)) tb [] ∧ w.heap.size ≤ tb from ⟨by rw [htb]; exact MapAt.made w1, by rw [htb]; exact hk1'.out.size⟩)
    clear htb
    go_loopw [7, 8] (fun c _ wx => ∃ q : Nat, (q : Int) ≤ width ∧ c = .int .i64 q ∧ MapAt wx tb (plKeys r width q) ∧ Keeps Nil w wx) (fun c _ _ => 255 - (intOf c).toNat)
    case atStart => exact ⟨0, by omega, rfl, hM0.out.1, hk1'.out.alloc _⟩
    case round =>
      obtain ⟨q, hq, rfl, hM, hK⟩ := hrel
      have hM' := Lib.hid hM
      have hK' := Lib.hid hK
      clear hM hK
      by_cases hlt : (q : Int) < width
      · have dl := decide_eq_true hlt
        have hstep := Lib.hid (plKeys_step (row := r) (width := width) (q := q) b2 hlt)
        have k1 := Int.emod_nonneg (r + q) (show width ≠ 0 by omega)
        have k2 := Int.emod_lt_of_pos (r + q) (show 0 < width by omega)
        have hCq := Lib.hid (fun W => hC.out q W hlt)
        obtain ⟨m, hm⟩ : ∃ m, width - 1 - (r + q) % width = m := ⟨_, rfl⟩
        rw [hm] at hCq hstep
        have m1 : 0 ≤ m := by omega
        have m2 : m < width := by omega
        have t1 : decide (m < 0) = false := decide_eq_false (by omega)
        have t2 : decide (width ≤ m) = false := decide_eq_false (by omega)
        clear hm k1 k2
        go_wp2_with (first | (go_at_call 10; refine (hCq.out _).mono ?_; rintro e w3 ⟨rfl, rfl⟩) | (at_mapUpdate; refine wpList_upd _ rfl _ _ _ 24 rfl 3 3 Try.underlying24 Try.underlying3 tb _ rfl (by exact hM'.out) m rfl (.int .i64 1) rfl ?_; intro w4 hm4 hk4 hz4; have hm4' := Lib.hid hm4; have hk4' := Lib.hid hk4; clear hm4 hk4 hz4))
        go_roundw
        case rel => exact ⟨q + 1, by omega, by go_num, by rw [← hstep.out]; exact hm4'.out, hK'.out.trans' hk4'.out (fun j hj => .inr (by rw [hj]; exact hM0.out.2))⟩
        case measure => simp [intOf]; omega
      · have dl := decide_eq_false hlt
        have hqe : (q : Int) = width := by omega
        have hlen : ∀ ty, (Builtin.len_ #[24] ty #[.map (some tb)]).run Try.prog wr = .ok (.int .i64 width) wr := fun ty => by
          have := run_mlen (P := Try.prog) Try.underlying24 hM'.out ty
          rw [plKeys_len, hqe] at this
          exact this
        have ew : (width == width) = true := by simp
        clear hqe
        go_wp2_with fail
        go_ret
        exact ⟨rfl, hK'.out⟩
end Go.Proofs.Ytdgcbjkopmlegaa
