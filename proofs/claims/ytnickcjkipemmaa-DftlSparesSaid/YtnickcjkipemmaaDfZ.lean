/- DftlSpares, plain: which keys are in memory, what was set and not stored yet, what a page that was stored holds -/
import Derived.Test.YtnickcjkipemmaaDfX
namespace Go.Proofs.Ytnickcjkipemmaa
open Go.RowKit

def dirt (e : Ent) : Option Int := if e.dirty then some e.val else none
/-- what was set, and is not stored yet -/
def dS (L : List Ent) (k : Int) : Option Int := (lget k L).bind dirt
theorem dS_none {L : List Ent} {k : Int} (h : lhas k L = false) : dS L k = none := by unfold dS; rw [lget_none_iff.2 h]; rfl
theorem lget_ldel_same {k : Int} : ∀ {L : List Ent}, (L.map (·.key)).Nodup → lget k (ldel k L) = none
  | [], _ => rfl
  | x :: r, h => by
    rw [List.map_cons, List.nodup_cons] at h
    rw [ldel]
    by_cases hk : x.key = k
    · rw [if_pos hk]; rw [lget_none_iff, lhas_false, ← hk]; exact h.1
    · rw [if_neg hk, lget, if_neg hk]; exact lget_ldel_same h.2
theorem hit_get {L : List Ent} {k : Int} (hh : lhas k L = true) :
    (lfront k L).map (·.key) = k :: (L.map (·.key)).erase k ∧ ∀ j, dS (lfront k L) j = dS L j := by
  obtain ⟨e, he⟩ := Option.isSome_iff_exists.1 (show (lget k L).isSome = true from hh)
  have hek := (lget_mem he).2
  have e1 : lfront k L = e :: ldel k L := by unfold lfront; rw [he]
  rw [e1]
  refine ⟨by rw [List.map_cons, hek, ldel_keys], fun j => ?_⟩
  unfold dS
  rw [lget, hek]
  by_cases hj : k = j
  · rw [if_pos hj, ← hj, he]
  · rw [if_neg hj, lget_ldel_other (Ne.symm hj)]
theorem hit_set {most : Int} {L : List Ent} {k n : Int} (hh : lhas k L = true) :
    (lput most ⟨k, n, true⟩ (lfront k L)).map (·.key) = k :: (L.map (·.key)).erase k ∧ ∀ j, dS (lput most ⟨k, n, true⟩ (lfront k L)) j = if j = k then some n else dS L j := by
  obtain ⟨e, he⟩ := Option.isSome_iff_exists.1 (show (lget k L).isSome = true from hh)
  have hek := (lget_mem he).2
  have e1 : lfront k L = e :: ldel k L := by unfold lfront; rw [he]
  have e2 : lget k (lfront k L) = some e := by rw [e1, lget, if_pos hek]
  have e3 : lput most ⟨k, n, true⟩ (lfront k L) = ⟨k, n, true⟩ :: ldel k L := by
    unfold lput
    simp only
    rw [e2, e1, ldel, if_pos hek]
    simp
  rw [e3]
  refine ⟨by rw [List.map_cons, ldel_keys], fun j => ?_⟩
  unfold dS
  rw [lget]
  by_cases hj : j = k
  · rw [if_pos hj.symm, if_pos hj]; rfl
  · rw [if_neg (Ne.symm hj), if_neg hj, lget_ldel_other hj]

/-! ### a put that misses -/
def pageOf (D : Df) : Int := (D.L.getLastD ent0).key / (D.P.per : Int)
theorem map_dropLast {α β : Type} (f : α → β) : ∀ l : List α, (l.dropLast).map f = (l.map f).dropLast
  | [] => rfl
  | [_] => rfl
  | x :: y :: r => by
    rw [List.dropLast_cons_cons, List.map_cons, map_dropLast f (y :: r), List.map_cons (l := y :: r), List.map_cons, List.dropLast_cons_cons]
theorem putD_new {most : Int} {keys : Int} {D : Df} (h : D.Ok keys most) (hc : D.Calm) (hm : 1 ≤ most) {x : Ent} (hh : lhas x.key D.L = false) :
    (D.put most x).2.L.map (·.key) = x.key :: (if (D.L.length : Int) = most then (D.L.map (·.key)).dropLast else D.L.map (·.key)) ∧
    (∀ j, dS (D.put most x).2.L j = if j = x.key then dirt x else if D.must most = true ∧ j / (D.P.per : Int) = pageOf D then none else dS D.L j) ∧
    (D.put most x).2.P = (if D.must most = true then D.P.loaded.stored (pageOf D) (D.page (pageOf D)) else D.P) := by
  have hp' : (0 : Int) < (D.P.per : Int) := by have := h.per; omega
  -- an entry that is put into a list of which the last one has not changed
  have ins : ∀ L : List Ent, (L.map (·.key)).Nodup → lhas x.key L = false → ((L.length : Int) = most → (L.getLastD ent0).dirty = false) → (L.length : Int) = most ∨ True →
      (lput most x L).map (·.key) = x.key :: (if (L.length : Int) = most then (L.map (·.key)).dropLast else L.map (·.key)) ∧ ∀ j, dS (lput most x L) j = if j = x.key then dirt x else dS L j := by
    intro L hn hx hl _
    unfold lput
    rw [lget_none_iff.2 hx]
    simp only
    by_cases hf : (L.length : Int) = most
    · rw [if_pos hf, if_pos hf]
      refine ⟨by rw [List.map_cons, map_dropLast], fun j => ?_⟩
      unfold dS
      rw [lget]
      by_cases hj : j = x.key
      · rw [if_pos hj.symm, if_pos hj]; rfl
      · rw [if_neg (Ne.symm hj), if_neg hj]
        by_cases hjl : j = (L.getLastD ent0).key
        · have hne : L ≠ [] := by intro e; rw [e] at hf; simp at hf; omega
          have hmem := getLastD_mem hne
          rw [hjl, lget_dropLast_last hn, lget_of_mem hn hmem]
          have hd := hl hf
          show none = dirt (L.getLastD ent0)
          unfold dirt
          rw [hd]; rfl
        · rw [lget_dropLast hjl]
    · rw [if_neg hf, if_neg hf]
      refine ⟨by rw [List.map_cons], fun j => ?_⟩
      unfold dS
      rw [lget]
      by_cases hj : j = x.key
      · rw [if_pos hj.symm, if_pos hj]; rfl
      · rw [if_neg (Ne.symm hj), if_neg hj]
  have hf1 := hc.fails
  have hf2 : D.P.loaded.fails = false := Df.Calm.fails (D := D.loaded) ⟨hc.every⟩
  unfold Df.put
  by_cases hmust : D.must most = true
  · obtain ⟨hl1, hl2, hl3⟩ := Df.last_mem hmust hm
    have hst : D.store ((D.L.getLastD ent0).key / (D.P.per : Int)) = (0, ⟨D.P.loaded.stored (pageOf D) (D.page (pageOf D)), lclr (pageOf D * (D.P.per : Int)) ((pageOf D + 1) * (D.P.per : Int)) D.L⟩) := by
      unfold Df.store
      rw [hf1, if_neg (by decide), hf2, if_neg (by decide)]; rfl
    rw [if_pos hmust, hst]
    simp only [if_true]
    have hkeys := lclr_keys (pageOf D * (D.P.per : Int)) ((pageOf D + 1) * (D.P.per : Int)) D.L
    have hlen := lclr_len (pageOf D * (D.P.per : Int)) ((pageOf D + 1) * (D.P.per : Int)) D.L
    have hlast : ((lclr (pageOf D * (D.P.per : Int)) ((pageOf D + 1) * (D.P.per : Int)) D.L).getLastD ent0).dirty = false := by
      have hne : D.L ≠ [] := by intro e; rw [e] at hl1; cases hl1
      have e1 : (lclr (pageOf D * (D.P.per : Int)) ((pageOf D + 1) * (D.P.per : Int)) D.L).getLastD ent0 = clrE (pageOf D * (D.P.per : Int)) ((pageOf D + 1) * (D.P.per : Int)) (D.L.getLastD ent0) := by
        unfold lclr
        rw [List.getLastD_eq_getLast?, List.getLastD_eq_getLast?, List.getLast?_map, List.getLast?_eq_some_getLast hne]; rfl
      rw [e1]
      have hb := (in_page hp').2 (show (D.L.getLastD ent0).key / (D.P.per : Int) = pageOf D from rfl)
      unfold clrE inR
      rw [hl3, decide_eq_true hb.1, decide_eq_true hb.2]
      rfl
    obtain ⟨i1, i2⟩ := ins _ (by rw [hkeys]; exact h.nodup) (by rw [lhas_keys hkeys]; exact hh) (fun _ => hlast) (.inr trivial)
    refine ⟨?_, fun j => ?_, by rw [if_pos hmust]; rfl⟩
    · show (lput most x _).map _ = _
      rw [i1, hkeys, hlen]
    · show dS (lput most x _) j = _
      rw [i2 j]
      by_cases hj : j = x.key
      · rw [if_pos hj, if_pos hj]
      · rw [if_neg hj, if_neg hj]
        unfold dS
        rw [lget_lclr]
        cases hg : lget j D.L with
        | none => simp
        | some e =>
          have hek := (lget_mem hg).2
          simp only [Option.map_some, Option.bind_some]
          by_cases hpg : j / (D.P.per : Int) = pageOf D
          · rw [if_pos ⟨hmust, hpg⟩]
            have hb := (in_page hp').2 hpg
            unfold clrE inR dirt
            rw [hek, decide_eq_true hb.1, decide_eq_true hb.2]
            cases hd : e.dirty <;> simp [hd]
          · rw [if_neg (fun e => hpg e.2)]
            unfold clrE
            rw [if_neg]
            unfold inR
            simp only [Bool.and_eq_true, decide_eq_true_eq, not_and]
            intro hd hb3
            rw [hek] at hd hb3
            exact hpg ((in_page hp').1 ⟨hd.2, hb3⟩)
  · rw [if_neg hmust, if_neg hmust]
    have hl : (D.L.length : Int) = most → (D.L.getLastD ent0).dirty = false := by
      intro hf
      unfold Df.must at hmust
      rw [decide_eq_true hf, Bool.true_and] at hmust
      simpa using hmust
    obtain ⟨i1, i2⟩ := ins D.L h.nodup hh hl (.inr trivial)
    refine ⟨i1, fun j => ?_, rfl⟩
    rw [show (0, D.ins most x).2.L = lput most x D.L from rfl, i2 j]
    by_cases hj : j = x.key
    · rw [if_pos hj, if_pos hj]
    · rw [if_neg hj, if_neg hj, if_neg (fun e => hmust e.1)]
/-- the page that was stored -/
structure FitIn (P : Pg) (S : Int → Option Int) : Prop where
  last : 0 ≤ P.last ∧ P.last ≤ 100000
  was : P.was.length = P.per
  set : ∀ i : Nat, i < P.per → ∀ v, S (P.last * (P.per : Int) + i) = some v → P.at (P.last * (P.per : Int) + i) = v
  rest : ∀ i : Nat, i < P.per → S (P.last * (P.per : Int) + i) = none → P.at (P.last * (P.per : Int) + i) = P.was.getD i 0
  any : ∃ i : Nat, i < P.per ∧ S (P.last * (P.per : Int) + i) ≠ none
theorem fit_put {most keys : Int} {D : Df} (h : D.Ok keys most) (hkeys : keys ≤ 100000) (hm : 1 ≤ most) (hmust : D.must most = true) : FitIn (D.P.loaded.stored (pageOf D) (D.page (pageOf D))) (dS D.L) := by
  have hp' : (0 : Int) < (D.P.per : Int) := by have := h.per; omega
  have hin : ∀ i : Nat, i < D.P.per → (pageOf D * (D.P.per : Int) + i) / (D.P.per : Int) = pageOf D ∧ (pageOf D * (D.P.per : Int) + i) % (D.P.per : Int) = i := by
    intro i hi
    constructor
    · rw [Int.add_comm, Int.add_mul_ediv_right _ _ (by omega), Int.ediv_eq_zero_of_lt (by omega) (by omega), Int.zero_add]
    · rw [Int.add_comm, Int.add_mul_emod_self_right, Int.emod_eq_of_lt (by omega) (by omega)]
  have hat : ∀ i : Nat, i < D.P.per → (D.P.loaded.stored (pageOf D) (D.page (pageOf D))).at (pageOf D * (D.P.per : Int) + i) = ((dS D.L (pageOf D * (D.P.per : Int) + i)).getD ((D.P.pages (pageOf D)).getD i 0)) := by
    intro i hi
    rw [Pg.at_stored h.per, if_pos (hin i hi).1]
    have e1 : D.P.at (pageOf D * (D.P.per : Int) + i) = (D.P.pages (pageOf D)).getD i 0 := by
      unfold Pg.at
      rw [(hin i hi).1, (hin i hi).2]; rfl
    unfold dS
    cases hg : lget (pageOf D * (D.P.per : Int) + i) D.L with
    | none => simp only [Option.bind_none, Option.getD_none]; exact e1
    | some e =>
      simp only [Option.bind_some, dirt]
      cases hd : e.dirty <;> simp [e1]
  have hlast : 0 ≤ pageOf D ∧ pageOf D ≤ 100000 := by
    obtain ⟨hl1, _, _⟩ := Df.last_mem hmust hm
    obtain ⟨k0, k1⟩ := h.key _ hl1
    refine ⟨Int.ediv_nonneg k0 (by omega), ?_⟩
    have := Int.ediv_le_self (b := (D.P.per : Int)) (a := (D.L.getLastD ent0).key) k0
    unfold pageOf
    omega
  refine ⟨hlast, h.pages _, fun i hi v hv => ?_, fun i hi hv => ?_, ?_⟩
  · have := hat i hi
    rw [show dS D.L (pageOf D * (D.P.per : Int) + i) = some v from hv] at this
    exact this
  · have := hat i hi
    rw [show dS D.L (pageOf D * (D.P.per : Int) + i) = none from hv] at this
    exact this
  · obtain ⟨hl1, _, hl3⟩ := Df.last_mem hmust hm
    have h0 := Int.emod_nonneg (D.L.getLastD ent0).key (Int.ne_of_gt hp')
    have h1 := Int.emod_lt_of_pos (D.L.getLastD ent0).key hp'
    have h2 := Int.mul_ediv_add_emod (D.L.getLastD ent0).key (D.P.per : Int)
    refine ⟨((D.L.getLastD ent0).key % (D.P.per : Int)).toNat, by show _ < D.P.per; omega, ?_⟩
    show dS D.L (pageOf D * (D.P.per : Int) + _) ≠ none
    rw [Int.toNat_of_nonneg h0, show pageOf D * (D.P.per : Int) + (D.L.getLastD ent0).key % (D.P.per : Int) = (D.L.getLastD ent0).key from by rw [Int.mul_comm]; exact h2]
    unfold dS
    rw [lget_of_mem h.nodup hl1]
    show dirt (D.L.getLastD ent0) ≠ none
    unfold dirt
    rw [hl3]
    exact fun e => by cases e

/-! ### the keys in memory are those that were asked for last -/
theorem take_hit {R : List Int} {k : Int} {m : Nat} (hk : k ∈ R.take m) : (k :: R.erase k).take m = k :: (R.take m).erase k := by
  cases m with
  | zero => simp at hk
  | succ m =>
    rw [List.take_succ_cons]
    congr 1
    induction R generalizing m with
    | nil => simp at hk
    | cons x r ih =>
      by_cases hx : x = k
      · subst hx; simp
      · rw [List.erase_cons_tail (by simpa using hx), List.take_succ_cons, List.erase_cons_tail (by simpa using hx)]
        cases m with
        | zero => simp at hk; exact absurd hk.symm hx
        | succ m =>
          rw [List.take_succ_cons]
          congr 1
          refine ih m ?_
          rw [List.take_succ_cons] at hk
          exact (List.mem_cons.1 hk).resolve_left (Ne.symm hx)
theorem take_miss {R : List Int} {k : Int} {m : Nat} (hm : 1 ≤ m) (hk : k ∉ R.take m) : (k :: R.erase k).take m = k :: (if (R.take m).length = m then (R.take m).dropLast else R.take m) := by
  obtain ⟨m, rfl⟩ : ∃ q, m = q + 1 := ⟨m - 1, by omega⟩
  rw [List.take_succ_cons]
  congr 1
  have e1 : (R.erase k).take m = R.take m := by
    induction R generalizing m with
    | nil => rfl
    | cons x r ih =>
      rw [List.take_succ_cons] at hk
      have hx : x ≠ k := fun e => hk (by rw [e]; simp)
      rw [List.erase_cons_tail (by simpa using hx)]
      cases m with
      | zero => rfl
      | succ m =>
        rw [List.take_succ_cons, List.take_succ_cons]
        congr 1
        exact ih m (by omega) (fun h => hk (List.mem_cons_of_mem _ h))
  rw [e1]
  by_cases hl : (R.take (m + 1)).length = m + 1
  · rw [if_pos hl, List.dropLast_eq_take, hl, List.take_take]
    congr 1
    omega
  · rw [if_neg hl]
    have : R.length ≤ m := by rw [List.length_take] at hl; omega
    rw [List.take_of_length_le this, List.take_of_length_le (by omega)]
end Go.Proofs.Ytnickcjkipemmaa
