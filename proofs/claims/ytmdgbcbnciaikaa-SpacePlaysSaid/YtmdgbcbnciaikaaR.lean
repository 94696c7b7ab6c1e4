/- SpaceAgain: the plain part; equal rows -/
import Derived.Test.YtmdgbcbnciaikaaQ
namespace Go.Proofs.Ytmdgbcbnciaikaa
open Go.RowKit

attribute [local go_sem ↓] Go.wp_at_zero Go.wp_at_succ

/-- of a table those that are in M -/
def keepOf (M T : List Spc) : List Spc := T.map (fun s => if s ∈ M then s else sp0)
theorem keepOf_get {M T : List Spc} {q : Nat} {s : Spc} (h : T[q]? = some s) : (keepOf M T)[q]? = some (if s ∈ M then s else sp0) := by
  unfold keepOf
  rw [List.getElem?_map, h]; rfl
theorem keepOf_len (M T : List Spc) : (keepOf M T).length = T.length := List.length_map _
theorem place {keys : Int} {T : List Spc} (h : TabOk keys T) {s : Spc} (hs : s ∈ spAll T) : ∃ i : Nat, i < 16 ∧ s.id = (i : Int) + 1 ∧ T[i]? = some s := by
  obtain ⟨h1, h2, h3, _, _⟩ := tat_mem h hs
  obtain ⟨i, hi, e⟩ : ∃ i : Nat, i < 16 ∧ s.id = (i : Int) + 1 := ⟨(s.id - 1).toNat, by omega, by omega⟩
  have := tat_get h.len hi
  rw [← e, h1] at this
  exact ⟨i, hi, e, this⟩
theorem other_place {keys : Int} {T : List Spc} (h : TabOk keys T) {i q : Nat} {s : Spc} (hs : s ≠ sp0) (hi : s.id = (i : Int) + 1) (hq : T[q]? = some s) : q = i := by
  rcases h.one q s hq with h1 | ⟨h1, _⟩
  · exact absurd h1 hs
  · omega
theorem keepOf_put {keys : Int} {T M : List Spc} (h : TabOk keys T) {i : Nat} {s : Spc} (hs : s ≠ sp0) (hi : s.id = (i : Int) + 1) (hT : T[i]? = some s) : (keepOf M T).set i s = keepOf (s :: M) T := by
  apply List.ext_getElem?
  intro q
  have hil := (List.getElem?_eq_some_iff.1 hT).1
  rw [List.getElem?_set]
  by_cases hq : i = q
  · subst hq
    rw [if_pos rfl, if_pos (by rw [keepOf_len]; exact hil), keepOf_get hT, if_pos (by simp)]
  · rw [if_neg hq]
    cases ht : T[q]? with
    | none => unfold keepOf; rw [List.getElem?_map, List.getElem?_map, ht]; rfl
    | some t =>
      rw [keepOf_get ht, keepOf_get ht]
      have hne : t ≠ s := fun e => hq (other_place h hs hi (by rw [ht, e])).symm
      congr 1
      by_cases hm : t ∈ M
      · rw [if_pos hm, if_pos (by simp [hm])]
      · rw [if_neg hm, if_neg (by simp [hm, hne])]
theorem keepOf_cut {keys : Int} {T M : List Spc} (h : TabOk keys T) {i : Nat} {s : Spc} (hs : s ≠ sp0) (hi : s.id = (i : Int) + 1) (hT : T[i]? = some s) (hM : s ∉ M) : (keepOf (s :: M) T).set i sp0 = keepOf M T := by
  rw [← keepOf_put h hs hi hT, List.set_set]
  refine set_same ?_
  rw [keepOf_get hT, if_neg hM]
theorem keepOf_all {T : List Spc} : keepOf (spAll T) T = T := by
  apply List.ext_getElem?
  intro q
  cases ht : T[q]? with
  | none => unfold keepOf; rw [List.getElem?_map, ht]; rfl
  | some t =>
    rw [keepOf_get ht]
    by_cases hm : t ∈ spAll T
    · rw [if_pos hm]
    · rw [if_neg hm]
      congr 1
      by_cases h0 : t = sp0
      · exact h0.symm
      · exact absurd (mem_all.2 ⟨List.mem_of_getElem? ht, h0⟩) hm
theorem keepOf_nil {T : List Spc} (h : T.length = 16) : keepOf [] T = List.replicate 16 sp0 := by
  unfold keepOf
  rw [← h]
  simp [List.map_const']
theorem keepOf_mem {M T : List Spc} {x : Spc} (hx : x ∈ spAll (keepOf M T)) : x ∈ M := by
  obtain ⟨h1, h2⟩ := mem_all.1 hx
  unfold keepOf at h1
  obtain ⟨t, _, e⟩ := List.mem_map.1 h1
  by_cases hm : t ∈ M
  · rw [if_pos hm] at e; rw [← e]; exact hm
  · rw [if_neg hm] at e; exact absurd e.symm h2
theorem all_nodup {keys : Int} {T : List Spc} (h : TabOk keys T) : (spAll T).Nodup := by
  have h1 := bases_nodup h
  unfold List.Nodup at h1 ⊢
  rw [List.pairwise_map] at h1
  exact h1.imp (fun h e => h (by rw [e]))
/-- one step up: the record makes it, and may not twice -/
theorem again_up {keys : Int} {T M : List Spc} (h : TabOk keys T) {s : Spc} (hs : s ∈ spAll T) (hsub : ∀ x ∈ M, x ∈ spAll T) (hM : s ∉ M) :
    apE keys (keepOf M T) (recOf s false) = 0 ∧ apT keys (keepOf M T) (recOf s false) = keepOf (s :: M) T ∧ apE keys (keepOf (s :: M) T) (recOf s false) = 81 ∧ apT keys (keepOf (s :: M) T) (recOf s false) = keepOf (s :: M) T := by
  obtain ⟨i, hi, hid, hT⟩ := place h hs
  obtain ⟨_, _, _, hne, hso⟩ := tat_mem h hs
  obtain ⟨z1, z2, z3⟩ := hso
  have t1 : ∀ N, tat (keepOf N T) s.id = if s ∈ N then s else sp0 := fun N => by
    have h1 := keepOf_get (M := N) hT
    have h2 := tat_get (T := keepOf N T) (by rw [keepOf_len]; exact h.len) hi
    rw [h1, ← hid] at h2
    exact (Option.some.inj h2).symm
  have ha : (recOf s false).a = s.id := rfl
  have hb : (recOf s false).b = s.size := rfl
  have hc : (recOf s false).c = s.base := rfl
  have hsp : spOf (recOf s false) = s := by
    show (⟨s.id, s.base, s.size⟩ : Spc) = s
    rfl
  have hm1 : mayR keys (keepOf M T) (recOf s false) = true := by
    unfold mayR
    refine decide_eq_true ⟨by rw [ha]; omega, by rw [ha]; omega, by rw [hb]; omega, by rw [hb]; omega, by rw [hb, hc]; omega, by rw [ha, t1, if_neg hM]⟩
  have hm2 : mayR keys (keepOf (s :: M) T) (recOf s false) = false := by
    unfold mayR
    refine decide_eq_false (fun hh => ?_)
    have := hh.2.2.2.2.2
    rw [ha, t1, if_pos (by simp)] at this
    exact hne this
  have hany : (spAll (keepOf M T)).any (over s) = false := by
    rw [List.any_eq_false]
    intro x hx
    have hxM := keepOf_mem hx
    have hxT := hsub x hxM
    have hxs : x ≠ s := fun e => hM (by rw [← e]; exact hxM)
    obtain ⟨j, hj, hjd, hTj⟩ := place h hxT
    have hij : i ≠ j := by
      rintro rfl
      rw [hT] at hTj
      exact hxs (Option.some.inj hTj).symm
    obtain ⟨_, _, _, hnex, hxo⟩ := tat_mem h hxT
    have := h.two i j s x hij hT hTj hne hnex
    unfold over
    rcases this with h1 | h1
    · simp; omega
    · simp; omega
  have f1 : fineR keys (keepOf M T) (recOf s false) = true := by unfold fineR; rw [hm1, hsp, hany]; rfl
  have f2 : fineR keys (keepOf (s :: M) T) (recOf s false) = false := by unfold fineR; rw [hm2]; rfl
  have k3 : (recOf s false).kind = 3 := rfl
  refine ⟨?_, ?_, ?_, ?_⟩
  · unfold apE; rw [k3, if_neg (by decide), if_pos ⟨rfl, f1⟩]
  · unfold apT; rw [k3, if_neg (by decide), if_pos ⟨rfl, f1⟩, ha, hsp, hid, show ((i : Int) + 1 - 1).toNat = i by omega]
    exact keepOf_put h hne hid hT
  · unfold apE; rw [k3, if_neg (by decide), if_neg (by rw [f2]; simp)]
  · unfold apT; rw [k3, if_neg (by decide), if_neg (by rw [f2]; simp)]
/-- one step down -/
theorem again_down {keys : Int} {T M : List Spc} (h : TabOk keys T) {s : Spc} (hs : s ∈ spAll T) (hM : s ∉ M) :
    apE keys (keepOf (s :: M) T) (recOf s true) = 0 ∧ apT keys (keepOf (s :: M) T) (recOf s true) = keepOf M T := by
  obtain ⟨i, hi, hid, hT⟩ := place h hs
  obtain ⟨_, _, _, hne, hso⟩ := tat_mem h hs
  have ha : (recOf s true).a = s.id := rfl
  have t1 : tat (keepOf (s :: M) T) s.id = s := by
    have h1 := keepOf_get (M := s :: M) hT
    have h2 := tat_get (T := keepOf (s :: M) T) (by rw [keepOf_len]; exact h.len) hi
    rw [h1, ← hid, if_pos (by simp)] at h2
    exact (Option.some.inj h2).symm
  have k4 : (recOf s true).kind = 4 := rfl
  refine ⟨?_, ?_⟩
  · unfold apE
    rw [if_pos k4, ha, if_neg (by omega), t1]
    exact if_neg hne
  · unfold apT
    rw [if_pos k4, ha, if_neg (by omega)]
    unfold tdel
    rw [if_pos (by omega), hid, show ((i : Int) + 1 - 1).toNat = i by omega]
    exact keepOf_cut h hne hid hT hM
theorem recOf_ok {keys : Int} {T : List Spc} (h : TabOk keys T) (hk : keys ≤ 4096) {s : Spc} (hs : s ∈ spAll T) (gone : Bool) : RecOk (recOf s gone) := by
  obtain ⟨_, h1, h2, _, hso⟩ := tat_mem h hs
  obtain ⟨z1, z2, z3⟩ := hso
  cases gone
  · exact ⟨by show (-9223372036854775808 : Int) ≤ 3; omega, by show (3 : Int) ≤ _; omega, by show 0 ≤ s.id; omega, by show s.id < _; omega, by show 0 ≤ s.size; omega, by show s.size < _; omega, z2, by show s.base < _; omega⟩
  · exact ⟨by show (-9223372036854775808 : Int) ≤ 4; omega, by show (4 : Int) ≤ _; omega, by show 0 ≤ s.id; omega, by show s.id < _; omega, by show (0 : Int) ≤ 0; omega, by show (0 : Int) < _; omega, by show (0 : Int) ≤ 0; omega, by show (0 : Int) < _; omega⟩
theorem SpIn.apply {w w1 : World} {tb : Nat} {keys : Int} {T : List Spc} (h : SpIn w w1 tb keys T) {r : Rec} (hr : RecOk r) :
    Calls Try.prog 21 #[.pointer (some ⟨tb, 0, none⟩), recV r] w1 fun e w' => e = .returned (.int .i64 (apE keys T r)) ∧ SpIn w w' tb keys (apT keys T r) ∧ Keeps (· = tb) w1 w' := by
  refine (apply_any h.at_ h.ok h.k0 h.k1 hr).mono ?_
  rintro e w' ⟨rfl, hT, hk⟩
  exact ⟨rfl, ⟨hT, apT_ok h.ok hr, h.keep.trans' hk (fun j hj => .inr (by rw [hj]; exact h.new)), h.new, h.k0, h.k1⟩, hk⟩

set_option maxHeartbeats 4000000 in
theorem rows23 {w : World} {a b : Option Addr} {ca cb : Nat} {L : List Spc} (ha : SpRow w a ca L) (hb : SpRow w b cb L) (hl : L.length ≤ 1000000) :
    Calls Try.prog 23 #[.slice a L.length ca, .slice b L.length cb] w fun e w' => e = .returned (.bool true) ∧ Keeps Nil w w' := by
  have ha' := Lib.hid ha
  have hb' := Lib.hid hb
  obtain ⟨n, hn⟩ : ∃ n, L.length = n := ⟨_, rfl⟩
  have hn' := Lib.hid hn
  rw [hn] at hl ⊢
  clear ha hb hn
  go_enter Try.func23, Try.ntmps23
  go_wp2_with fail
  go_loopw [5] (fun c wx => ∃ q : Nat, q ≤ n ∧ c = .int .i64 q ∧ Keeps Nil w wx) (fun c _ => n - (intOf c).toNat)
  case atStart => exact ⟨0, Nat.zero_le _, rfl, Keeps.refl _ _⟩
  case round =>
    obtain ⟨q, hq, rfl, hK⟩ := hrel
    have hK' := Lib.hid hK
    by_cases hlt : q < n
    · obtain ⟨⟨u, v, y⟩, hs⟩ : ∃ s, L[q]? = some s := ⟨_, List.getElem?_eq_getElem (by rw [hn'.out]; exact hlt)⟩
      obtain ⟨g, rfl, _⟩ := RecRow.at ha'.out (by rw [hn'.out]; omega)
      obtain ⟨g2, rfl, _⟩ := RecRow.at hb'.out (by rw [hn'.out]; omega)
      obtain ⟨a0, a1, a2⟩ := SpRow.cells (RecRow.keeps ha'.out hK (fun _ _ h => h)) hs
      obtain ⟨b0, b1, b2⟩ := SpRow.cells (RecRow.keeps hb'.out hK (fun _ _ h => h)) hs
      have g1 : (0 : Int) ≤ (q : Int) := by omega
      have g2' : (q : Int) < (n : Int) := by omega
      clear hK hs
      go_wp2_with fail
      go_quiet (fail)
      go_wp2_with fail
      go_roundw
      case rel => exact ⟨q + 1, by omega, by go_num, hK'.out.drewN _⟩
      case measure => simp [intOf]; omega
    · clear hK
      go_wp2_with fail
      go_ret
      exact ⟨rfl, hK'.out⟩
end Go.Proofs.Ytmdgbcbnciaikaa
