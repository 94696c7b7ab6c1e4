/- DftlSpares: fits -/
import Derived.Test.YtnickcjkipemmaaDfZ1
namespace Go.Proofs.Ytnickcjkipemmaa
open Go.RowKit

/-- what was stored goes out of the map, so far -/
def cleared (lo : Int) (i : Nat) (S : Int → Option Int) : Int → Option Int := fun j => if lo ≤ j ∧ j < lo + i then none else S j
theorem cleared_zero (lo : Int) (S : Int → Option Int) : cleared lo 0 S = S := by funext j; unfold cleared; rw [if_neg (by omega)]
theorem cleared_at (lo : Int) (i : Nat) (S : Int → Option Int) : cleared lo i S (lo + i) = S (lo + i) := by unfold cleared; rw [if_neg (by omega)]
theorem cleared_del (lo : Int) (i : Nat) (S : Int → Option Int) : updM (cleared lo i S) (lo + i) none = cleared lo (i + 1) S := by
  funext j
  by_cases hj : j = lo + i
  · rw [hj, updM_same]; unfold cleared; rw [if_pos (by omega)]
  · rw [updM_other _ _ hj]
    unfold cleared
    by_cases h : lo ≤ j ∧ j < lo + i
    · rw [if_pos h, if_pos (by omega)]
    · rw [if_neg h, if_neg (by omega)]
theorem cleared_skip (lo : Int) (i : Nat) (S : Int → Option Int) (h : S (lo + i) = none) : cleared lo (i + 1) S = cleared lo i S := by
  rw [← cleared_del]
  funext j
  by_cases hj : j = lo + i
  · rw [hj, updM_same, cleared_at, h]
  · rw [updM_other _ _ hj]
theorem cleared_all {per : Nat} (hp : 0 < per) (n : Int) (S : Int → Option Int) : cleared (n * (per : Int)) per S = fun j => if j / (per : Int) = n then none else S j := by
  funext j
  unfold cleared
  have h := in_page (k := j) (n := n) (per := (per : Int)) (by omega)
  rw [Int.add_mul, Int.one_mul] at h
  by_cases hj : j / (per : Int) = n
  · rw [if_pos hj, if_pos (h.2 hj)]
  · rw [if_neg hj, if_neg (fun e => hj (h.1 e))]
theorem PgAt.lastWas {w : World} {pb : Nat} {P : Pg} {OP : Nat → Prop} (h : PgAt w pb P OP) (hw : P.was.length = P.per) : w.cell? ⟨pb, 8, none⟩ = some (.int .i64 P.last) ∧ ∃ g wc, w.cell? ⟨pb, 9, none⟩ = some (.slice (some ⟨g, 0, none⟩) P.per wc) ∧ ∀ j, j < P.per → w.cell? ⟨g, j, none⟩ = some (.int .u64 (P.was.getD j 0)) := by
  obtain ⟨mb, f, wa, wc, h⟩ := h
  rcases h.was with h0 | ⟨g, h1, h2, _⟩
  · have := h.per; rw [h0] at hw; simp at hw; omega
  · subst h1
    have c9 := cell_of_heap h.blk 9
    refine ⟨cell_of_heap h.blk 8, g, wc, by rw [c9, ← hw]; rfl, fun j hj => ?_⟩
    rw [cell_of_heap h2]; exact ncells_get (by omega)
theorem PgAt.perOk {w : World} {pb : Nat} {P : Pg} {OP : Nat → Prop} (h : PgAt w pb P OP) : 1 ≤ P.per ∧ P.per ≤ 1024 := by obtain ⟨_, _, _, _, h⟩ := h; exact h.per
set_option maxHeartbeats 8000000 in
set_option maxRecDepth 100000 in
theorem fits33 {w : World} {pb sb : Nat} {P : Pg} {OP : Nat → Prop} {S : Int → Option Int} (hP : PgAt w pb P OP) (hS : SetB w sb S) (hF : FitIn P S) (own n : Int) (hown : own = -1 ∨ S own = none) (hsb : ¬ OP sb) :
    Calls Try.prog 33 #[.pointer (some ⟨pb, 0, none⟩), .map (some sb), .int .i64 (P.per : Nat), .int .i64 own, .int .u64 n] w fun e w' => e = .returned (.bool true) ∧ SetB w' sb (fun j => if j / (P.per : Int) = P.last then none else S j) ∧ Keeps (· = sb) w w' := by
  obtain ⟨p1, p2⟩ := hP.perOk
  obtain ⟨l1, l2⟩ := hF.last
  obtain ⟨q, hq⟩ : ∃ q, P.per = q := ⟨_, rfl⟩
  obtain ⟨c8, g, wc, c9, cg⟩ := hP.lastWas hF.was
  have hend := cleared_all (per := P.per) (by omega) P.last S
  rw [hq] at c9 cg p1 p2 hend ⊢
  obtain ⟨lo, hlo⟩ : ∃ lo, P.last * (q : Int) = lo := ⟨_, rfl⟩
  have hlo0 : 0 ≤ lo := by rw [← hlo]; exact Int.mul_nonneg l1 (by omega)
  have hlo1 : lo ≤ 102400000 := by
    rw [← hlo]
    calc P.last * (q : Int) ≤ 100000 * 1024 := Int.mul_le_mul l2 (by omega) (by omega) (by omega)
      _ ≤ 102400000 := by decide
  have hAt := Lib.hid (fun (W : World) (i : Nat) (hi : i < q) (hW : Keeps (· = sb) w W) => at_any (k := lo + i) (hP.keeps hW (fun j hj e => hsb (by rw [← e]; exact hj))) (by omega) (by omega))
  have hC := Lib.hid (fun (W : World) (hW : Keeps (· = sb) w W) => (show W.cell? ⟨pb, 8, none⟩ = some (.int .i64 P.last) ∧ W.cell? ⟨pb, 9, none⟩ = some (.slice (some ⟨g, 0, none⟩) q wc) ∧ ∀ j, j < q → W.cell? ⟨g, j, none⟩ = some (.int .u64 (P.was.getD j 0)) from ?_))
  rotate_left
  · obtain ⟨a8, g', wc', a9, ag⟩ := (hP.keeps hW (fun j hj e => hsb (by rw [← e]; exact hj))).lastWas hF.was
    rw [hq] at a9 ag
    have hsame : W.cell? ⟨pb, 9, none⟩ = w.cell? ⟨pb, 9, none⟩ := by
      rw [c9]
      exact hW.cell c9 (fun e => hsb (by rw [← e]; exact hP.opb))
    rw [hsame, c9] at a9
    cases a9
    exact ⟨a8, by rw [hsame]; exact c9, ag⟩
  have hF' := Lib.hid hF
  have hS' := Lib.hid hS
  have hlo' := Lib.hid hlo
  have hend' := Lib.hid hend
  have hq' := Lib.hid hq
  have hown' := Lib.hid hown
  rw [hlo] at hend'
  clear hP c8 c9 cg hF hS hlo hend hq l1 l2 hown
  go_enter Try.func33, Try.ntmps33
  go_wp2_with fail
  go_loopw [11, 12, 13, 14, 15] (fun sm i _ _ _ wr => ∃ (k : Nat) (b : Bool), k ≤ q ∧ i = .int .i64 k ∧ sm = .bool b ∧ SetB wr sb (cleared lo k S) ∧ Keeps (· = sb) w wr ∧ ((∃ j : Nat, j < k ∧ S (lo + j) ≠ none) → b = true)) (fun _ i _ _ _ _ => q - (intOf i).toNat)
  case atStart => exact ⟨0, false, Nat.zero_le _, rfl, rfl, by rw [cleared_zero]; exact hS'.out, Keeps.refl _ _, fun ⟨j, h, _⟩ => absurd h (Nat.not_lt_zero _)⟩
  case round =>
    obtain ⟨k, b, hk, rfl, rfl, hSk, hkp, hb⟩ := hrel
    by_cases hlt : k < q
    · obtain ⟨d8, d9, dg⟩ := hC.out wr hkp
      have e0 := dg k hlt
      have hA := hAt.out wr k hlt hkp
      have hw0 : IntKind.i64.wrap (P.last * (q : Int)) = lo := by rw [hlo'.out]; exact wrap_small (by omega) (by omega)
      have hlk := hSk.lookOk (lo + k)
      rw [cleared_at] at hlk
      obtain ⟨v, hv⟩ : ∃ v, P.at (lo + k) = v := ⟨_, rfl⟩
      obtain ⟨u, hu⟩ : ∃ u, P.was.getD k 0 = u := ⟨_, rfl⟩
      have hvv := Lib.hid hv
      rw [hv] at hA
      rw [hu] at e0
      have hset : ∀ x, S (lo + k) = some x → v = x := fun x hx => by
        have := hF'.out.set k (by rw [hq'.out]; exact hlt) x (by rw [hq'.out, hlo'.out]; exact hx)
        rw [hq'.out, hlo'.out, hv] at this; exact this
      have hrest : S (lo + k) = none → v = u := fun hx => by
        have := hF'.out.rest k (by rw [hq'.out]; exact hlt) (by rw [hq'.out, hlo'.out]; exact hx)
        rw [hq'.out, hlo'.out, hv, hu] at this; exact this
      have hSk' := Lib.hid hSk
      have hkp' := Lib.hid hkp
      have hb' := Lib.hid hb
      have hA' := Lib.hid hA
      have hd9 := Lib.hid (And.intro d9 e0)
      clear hSk hkp hb hA dg hv hu d9 e0
      cases hx : S (lo + k) with
      | some x =>
        have hvx := hset x hx
        subst hvx
        have hno : (lo + (k : Int) == own) = false := by
          rcases hown'.out with h | h
          · simp; omega
          · simp; rintro rfl; rw [hx] at h; cases h
        rw [hx] at hlk
        simp only [Option.getD_some, Option.isSome_some] at hlk
        have hx' := Lib.hid hx
        clear hset hrest hx
        go_wp2_with fail
        refine (hA'.out).mono ?_
        rintro e w4 ⟨rfl, hk4⟩
        have hS4 := Lib.hid (hSk'.out.keeps hk4 (fun h => h))
        have hk4' := Lib.hid (hkp'.out.trans (hk4.mono (fun _ h => h.elim)))
        clear hk4 hA' hlk
        go_wp2_with (at_delete; refine wpList_setDel _ rfl _ _ rfl sb (cleared lo k S) rfl (by exact hS4.out) (lo + k) rfl ?_; intro w5 hS5 hk5; have hS5' := Lib.hid hS5; have hk5' := Lib.hid hk5; clear hS5 hk5)
        go_roundw
        case rel => exact ⟨k + 1, true, by omega, by go_num, rfl, by rw [← cleared_del]; exact hS5'.out, hk4'.out.trans hk5'.out, fun _ => rfl⟩
        case measure => simp [intOf]; omega
      | none =>
        have hvu := hrest hx
        subst hvu
        have hskip := Lib.hid (cleared_skip lo k S hx)
        have hb2 := Lib.hid (fun (b' : Bool) (hbb : b = true → b' = true) => (show (∃ j : Nat, j < k + 1 ∧ S (lo + j) ≠ none) → b' = true from fun ⟨j, hj, hn⟩ => by
          by_cases hjk : j = k
          · rw [hjk] at hn; exact absurd hx hn
          · exact hbb (hb'.out ⟨j, by omega, hn⟩)))
        rw [hx] at hlk
        simp only [Option.getD_none, Option.isSome_none] at hlk
        clear hset hrest hx
        by_cases hown : lo + (k : Int) = own
        · have ho : (lo + (k : Int) == own) = true := by simpa using hown
          clear hown
          by_cases hvn : v = n
          · have hvn' : (v == n) = true := by simpa using hvn
            clear hvn
            go_wp2_with fail
            refine (hA'.out).mono ?_
            rintro e w4 ⟨rfl, hk4⟩
            have hS4 := Lib.hid (hSk'.out.keeps hk4 (fun h => h))
            have hk4' := Lib.hid (hkp'.out.trans (hk4.mono (fun _ h => h.elim)))
            clear hk4 hA' hlk
            go_wp2_with fail
            go_roundw
            case rel => exact ⟨k + 1, true, by omega, by go_num, rfl, by rw [hskip.out]; exact hS4.out, hk4'.out, fun _ => rfl⟩
            case measure => simp [intOf]; omega
          · have hvn' : (v == n) = false := by simpa using hvn
            clear hvn
            go_wp2_with fail
            refine (hA'.out).mono ?_
            rintro e w4 ⟨rfl, hk4⟩
            have hS4 := Lib.hid (hSk'.out.keeps hk4 (fun h => h))
            have hk4' := Lib.hid (hkp'.out.trans (hk4.mono (fun _ h => h.elim)))
            have f9 := hk4.cell hd9.out.1 (fun h => h)
            have g0 := hk4.cell hd9.out.2 (fun h => h)
            have hA2 := Lib.hid (hAt.out w4.drew k hlt (hk4'.out.drew))
            clear hk4 hA' hlk
            go_wp2_with fail
            go_region_held3 (fun W => W.cell? ⟨pb, 9, none⟩ = some (.slice (some ⟨g, 0, none⟩) q wc) ∧ W.cell? ⟨g, k, none⟩ = some (.int .u64 v)) (first | exact ⟨f9, g0⟩ | exact ⟨hk9'.out.cell f9 (fun h => h), hk9'.out.cell g0 (fun h => h)⟩) ((go_at_call 35; refine (hA2.out).mono ?_; rintro e w9 ⟨he9, hk9⟩; rw [he9, hvv.out]; clear he9; have hk9' := Lib.hid hk9; clear hk9))
            go_wp2_with fail
            go_roundw
            case rel => exact ⟨k + 1, b, by omega, by go_num, rfl, by rw [hskip.out]; exact hS4.out.keeps (T := Nil) ((Keeps.refl Nil w4).drew.trans hk9'.out) (fun h => h), hk4'.out.drew.trans (hk9'.out.mono (fun _ h => h.elim)), hb2.out b id⟩
            case measure => simp [intOf]; omega
        · have ho : (lo + (k : Int) == own) = false := by simpa using hown
          have f9 := hd9.out.1
          have g0 := hd9.out.2
          have hA2 := Lib.hid (hAt.out wr.drew k hlt (hkp'.out.drew))
          clear hown hA'
          go_wp2_with fail
          clear hlk
          go_region_held3 (fun W => W.cell? ⟨pb, 9, none⟩ = some (.slice (some ⟨g, 0, none⟩) q wc) ∧ W.cell? ⟨g, k, none⟩ = some (.int .u64 v)) (first | exact ⟨f9, g0⟩ | exact ⟨hk9'.out.cell f9 (fun h => h), hk9'.out.cell g0 (fun h => h)⟩) ((go_at_call 35; refine (hA2.out).mono ?_; rintro e w9 ⟨he9, hk9⟩; rw [he9, hvv.out]; clear he9; have hk9' := Lib.hid hk9; clear hk9))
          go_wp2_with fail
          go_roundw
          case rel => exact ⟨k + 1, b, by omega, by go_num, rfl, by rw [hskip.out]; exact hSk'.out.keeps (T := Nil) ((Keeps.refl Nil wr).drew.trans hk9'.out) (fun h => h), hkp'.out.drew.trans (hk9'.out.mono (fun _ h => h.elim)), hb2.out b id⟩
          case measure => simp [intOf]; omega
    · have hkq : k = q := by omega
      subst hkq
      have hbt : b = true := hb (by
        obtain ⟨i, hi, hn⟩ := hF'.out.any
        rw [hq'.out] at hi hn
        rw [hlo'.out] at hn
        exact ⟨i, hi, hn⟩)
      subst hbt
      have hSk' := Lib.hid hSk
      have hkp' := Lib.hid hkp
      clear hSk hkp hb
      go_wp2_with fail
      go_ret
      exact ⟨rfl, by rw [← hend'.out]; exact hSk'.out, hkp'.out⟩
end Go.Proofs.Ytnickcjkipemmaa
