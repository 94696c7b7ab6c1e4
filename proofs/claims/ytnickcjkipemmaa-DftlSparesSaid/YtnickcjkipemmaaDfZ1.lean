/- DftlSpares, plain: one call -/
import Derived.Test.YtnickcjkipemmaaDfZ
namespace Go.Proofs.Ytnickcjkipemmaa
open Go.RowKit

structure Spare (keys : Int) (mo : Nat) (D : Df) (R : List Int) (S : Int → Option Int) (N : Int → Int) : Prop where
  keysL : D.L.map (·.key) = R.take mo
  set : ∀ k, S k = dS D.L k
  now : ∀ k, 0 ≤ k → k < keys → N k = D.cur k
  calm : D.Calm
/-- what a call asks of the pager -/
def Asks (D D' : Df) (mo : Nat) (R : List Int) (k : Int) (S S1 : Int → Option Int) : Prop :=
  (D'.P.stores = D.P.stores ∧ D'.P.loads ≤ D.P.loads + 2 ∧ (k ∈ R.take mo → D'.P.loads = D.P.loads) ∧ S1 = S) ∨
  (D'.P.stores = D.P.stores + 1 ∧ D'.P.loads ≤ D.P.loads + 2 ∧ k ∉ R.take mo ∧ FitIn D'.P S ∧ S k = none ∧ S1 = fun j => if j / (D'.P.per : Int) = D'.P.last then none else S j)
variable {keys : Int} {mo : Nat} {D : Df} {R : List Int} {S : Int → Option Int} {N : Int → Int} {k : Int}
theorem Spare.has (h : Spare keys mo D R S N) : lhas k D.L = true ↔ k ∈ R.take mo := by rw [lhas_true, h.keysL]
theorem Spare.hasNot (h : Spare keys mo D R S N) : lhas k D.L = false ↔ k ∉ R.take mo := by rw [lhas_false, h.keysL]
theorem Spare.setStep (h : Spare keys mo D R S N) (hok : D.Ok keys mo) (hkb : keys ≤ 100000) (hm : 1 ≤ mo) (hk : 0 ≤ k ∧ k < keys) (n : Int) :
    ∃ S1, Asks D (D.set mo k n).2 mo R k S S1 ∧ Spare keys mo (D.set mo k n).2 (k :: R.erase k) (updM S1 k (some n)) (updM N k n) := by
  have hm' : (1 : Int) ≤ (mo : Int) := by omega
  obtain ⟨o1, o2, o3, _⟩ := hok.set hm' hk (n := n)
  obtain ⟨c1, c2⟩ := h.calm.set (most := (mo : Int)) k n
  have hcur := o3 c1
  have hnow : ∀ j, 0 ≤ j → j < keys → updM N k n j = (D.set mo k n).2.cur j := by
    intro j h0 h1
    rw [hcur j]
    by_cases hj : j = k
    · rw [hj, updM_same, if_pos rfl]
    · rw [updM_other _ _ hj, if_neg hj]; exact h.now j h0 h1
  cases hh : lhas k D.L with
  | true =>
    have hset : D.set mo k n = (0, ⟨D.P, lput mo ⟨k, n, true⟩ (lfront k D.L)⟩) := by unfold Df.set; rw [hh, if_pos rfl]
    rw [hset] at hnow c2 ⊢
    obtain ⟨q1, q2⟩ := hit_set (most := (mo : Int)) (n := n) hh
    refine ⟨S, .inl ⟨rfl, Nat.le_add_right _ _, fun _ => rfl, rfl⟩, ⟨?_, fun j => ?_, hnow, c2⟩⟩
    · show (lput mo ⟨k, n, true⟩ (lfront k D.L)).map _ = _
      rw [q1, take_hit (h.has.1 hh), h.keysL]
    · show updM S k (some n) j = dS (lput mo ⟨k, n, true⟩ (lfront k D.L)) j
      rw [q2 j]
      by_cases hj : j = k
      · rw [hj, updM_same, if_pos rfl]
      · rw [updM_other _ _ hj, if_neg hj]; exact h.set j
  | false =>
    have hset : D.set mo k n = D.put mo ⟨k, n, true⟩ := by unfold Df.set; rw [hh]; rfl
    rw [hset] at hnow c2 ⊢
    have hnot := h.hasNot.1 hh
    obtain ⟨q1, q2, q3⟩ := putD_new hok h.calm hm' (x := ⟨k, n, true⟩) hh
    have hkeys : (D.put mo ⟨k, n, true⟩).2.L.map (·.key) = (k :: R.erase k).take mo := by
      rw [q1, take_miss hm hnot, h.keysL]
      have hl : ((D.L.length : Int) = (mo : Int)) ↔ (R.take mo).length = mo := by
        rw [← h.keysL, List.length_map]; omega
      by_cases hf : (R.take mo).length = mo
      · rw [if_pos hf, if_pos (hl.2 hf)]
      · rw [if_neg hf, if_neg (fun e => hf (hl.1 e))]
    by_cases hmust : D.must mo = true
    · rw [if_pos hmust] at q3
      refine ⟨fun j => if j / ((D.put mo ⟨k, n, true⟩).2.P.per : Int) = (D.put mo ⟨k, n, true⟩).2.P.last then none else S j, .inr ⟨?_, ?_, hnot, ?_, by rw [h.set k]; exact dS_none hh, rfl⟩, ⟨hkeys, fun j => ?_, hnow, c2⟩⟩
      · rw [q3]; rfl
      · rw [q3]; show D.P.loads + 1 ≤ D.P.loads + 2; omega
      · rw [q3]
        have hf := fit_put hok hkb hm' hmust
        rw [show S = dS D.L from funext h.set]
        exact hf
      · rw [q2 j]
        by_cases hj : j = k
        · rw [hj, updM_same, if_pos rfl]; rfl
        · rw [updM_other _ _ hj, if_neg hj, q3, ← h.set j]
          show (if j / (D.P.per : Int) = pageOf D then none else S j) = _
          by_cases hp : j / (D.P.per : Int) = pageOf D
          · rw [if_pos hp, if_pos ⟨hmust, hp⟩]
          · rw [if_neg hp, if_neg (fun e => hp e.2)]
    · rw [if_neg hmust] at q3
      refine ⟨S, .inl ⟨by rw [q3], by rw [q3]; omega, fun e => absurd e hnot, rfl⟩, ⟨hkeys, fun j => ?_, hnow, c2⟩⟩
      rw [q2 j]
      by_cases hj : j = k
      · rw [hj, updM_same, if_pos rfl]; rfl
      · rw [updM_other _ _ hj, if_neg hj, ← h.set j, if_neg (fun e => hmust e.1)]
theorem Spare.getStep (h : Spare keys mo D R S N) (hok : D.Ok keys mo) (hkb : keys ≤ 100000) (hm : 1 ≤ mo) (hk : 0 ≤ k ∧ k < keys) :
    ∃ S1, Asks D (D.getD mo k) mo R k S S1 ∧ Spare keys mo (D.getD mo k) (k :: R.erase k) S1 N ∧ D.getV mo k = N k ∧ D.getC mo k = 0 := by
  have hm' : (1 : Int) ≤ (mo : Int) := by omega
  obtain ⟨o1, o2, o3, o4, _⟩ := hok.get hm' hk
  obtain ⟨c1, c2⟩ := h.calm.get (most := (mo : Int)) k
  have hnow : ∀ j, 0 ≤ j → j < keys → N j = (D.getD mo k).cur j := fun j h0 h1 => by rw [o3 j]; exact h.now j h0 h1
  have hv : D.getV mo k = N k := by rw [o4 c1]; exact (h.now k hk.1 hk.2).symm
  cases hh : lhas k D.L with
  | true =>
    have hget : D.getD mo k = ⟨D.P, lfront k D.L⟩ := by unfold Df.getD; rw [hh, if_pos rfl]
    rw [hget] at hnow c2 ⊢
    obtain ⟨q1, q2⟩ := hit_get hh
    refine ⟨S, .inl ⟨rfl, Nat.le_add_right _ _, fun _ => rfl, rfl⟩, ⟨?_, fun j => ?_, hnow, c2⟩, hv, c1⟩
    · show (lfront k D.L).map _ = _
      rw [q1, take_hit (h.has.1 hh), h.keysL]
    · show S j = dS (lfront k D.L) j
      rw [q2 j]; exact h.set j
  | false =>
    have hget : D.getD mo k = (D.loaded.put mo ⟨k, D.P.at k, false⟩).2 := by unfold Df.getD; rw [hh, h.calm.fails]; rfl
    rw [hget] at hnow c2 ⊢
    have hnot := h.hasNot.1 hh
    have hokl := hok.loaded
    obtain ⟨q1, q2, q3⟩ := putD_new hokl (show D.loaded.Calm from ⟨h.calm.every⟩) hm' (x := ⟨k, D.P.at k, false⟩) hh
    have hkeys : (D.loaded.put mo ⟨k, D.P.at k, false⟩).2.L.map (·.key) = (k :: R.erase k).take mo := by
      rw [q1, take_miss hm hnot, show D.loaded.L = D.L from rfl, h.keysL]
      have hl : ((D.L.length : Int) = (mo : Int)) ↔ (R.take mo).length = mo := by
        rw [← h.keysL, List.length_map]; omega
      by_cases hf : (R.take mo).length = mo
      · rw [if_pos hf, if_pos (hl.2 hf)]
      · rw [if_neg hf, if_neg (fun e => hf (hl.1 e))]
    have hS0 : S k = none := by rw [h.set k]; exact dS_none hh
    by_cases hmust : D.loaded.must mo = true
    · rw [if_pos hmust] at q3
      refine ⟨fun j => if j / ((D.loaded.put mo ⟨k, D.P.at k, false⟩).2.P.per : Int) = (D.loaded.put mo ⟨k, D.P.at k, false⟩).2.P.last then none else S j, .inr ⟨?_, ?_, hnot, ?_, hS0, rfl⟩, ⟨hkeys, fun j => ?_, hnow, c2⟩, hv, c1⟩
      · rw [q3]; rfl
      · rw [q3]; show D.P.loads + 1 + 1 ≤ D.P.loads + 2; omega
      · rw [q3]
        have hf := fit_put hokl hkb hm' hmust
        rw [show S = dS D.L from funext h.set]
        exact hf
      · rw [q2 j, q3]
        show (if j / (D.P.per : Int) = pageOf D.loaded then none else S j) = _
        by_cases hj : j = k
        · rw [hj, if_pos rfl, hS0, ite_self]; rfl
        · rw [if_neg hj, show dS D.loaded.L j = S j from (h.set j).symm]
          by_cases hp : j / (D.P.per : Int) = pageOf D.loaded
          · rw [if_pos hp, if_pos ⟨hmust, hp⟩]
          · rw [if_neg hp, if_neg (fun e => hp e.2)]
    · rw [if_neg hmust] at q3
      refine ⟨S, .inl ⟨by rw [q3]; rfl, by rw [q3]; show D.P.loads + 1 ≤ _; omega, fun e => absurd e hnot, rfl⟩, ⟨hkeys, fun j => ?_, hnow, c2⟩, hv, c1⟩
      rw [q2 j]
      by_cases hj : j = k
      · rw [hj, if_pos rfl, hS0]; rfl
      · rw [if_neg hj, show dS D.loaded.L j = S j from (h.set j).symm, if_neg (fun e => hmust e.1)]
/-! ### a map of numbers -/
def SetB (w : World) (sb : Nat) (S : Int → Option Int) : Prop := ∃ f, MapAt w sb f ∧ (mkeys f).Nodup ∧ ∀ j, mget j f = (S j).map (Value.int .u64)
theorem zero30 (W : World) : (zeroValue 30).run Try.prog W = .ok (.int .u64 0) W := by kernel_rfl
theorem SetB.keeps {w w' : World} {sb : Nat} {S : Int → Option Int} {T : Nat → Prop} (h : SetB w sb S) (hk : Keeps T w w') (hn : ¬ T sb) : SetB w' sb S := by
  obtain ⟨f, h1, h2⟩ := h
  exact ⟨f, h1.keeps hk hn, h2⟩
theorem SetB.made (w : World) : SetB (w.alloc (.map #[] 0)) w.heap.size (fun _ => none) := ⟨[], MapAt.made w, List.nodup_nil, fun _ => rfl⟩
theorem SetB.lt {w : World} {sb : Nat} {S : Int → Option Int} (h : SetB w sb S) : sb < w.heap.size := by obtain ⟨f, h1, _⟩ := h; exact h1.lt
theorem SetB.look {w : World} {sb : Nat} {S : Int → Option Int} (h : SetB w sb S) (k : Int) : (Instr.lookup 71 (.map (some sb)) (.int .i64 k) false).run Try.prog w = .ok (.int .u64 ((S k).getD 0)) w := by
  obtain ⟨f, h1, _, h3⟩ := h
  have := run_look (P := Try.prog) Try.underlying71 Try.underlying3 (zero30 w) h1 k
  rw [this, h3 k]
  cases S k <;> rfl
theorem SetB.lookOk {w : World} {sb : Nat} {S : Int → Option Int} (h : SetB w sb S) (k : Int) : (Instr.lookup 71 (.map (some sb)) (.int .i64 k) true).run Try.prog w = .ok (.tuple #[.int .u64 ((S k).getD 0), .bool (S k).isSome]) w := by
  obtain ⟨f, h1, _, h3⟩ := h
  have := run_look_ok (P := Try.prog) Try.underlying71 Try.underlying3 (zero30 w) h1 k
  rw [this, h3 k]
  cases S k <;> rfl
section
variable (w : World) {ops : Array Oper} {rest : List Oper} {o : Oper} {a : Act} {Q : Exit → Act → World → Prop}
theorem wpList_setPut (hg : o.guard = none) (m x v : Operand) (hop : o.op = Op.mapUpdate 71 m x v) (sb : Nat) (S : Int → Option Int) (hm : a.eval m = .map (some sb)) (h : SetB w sb S) (j : Int) (hx : a.eval x = .int .i64 j) (y : Int) (hv : a.eval v = .int .u64 y)
    (hn : ∀ w', SetB w' sb (updM S j (some y)) → Keeps (· = sb) w w' → wpList Try.prog ops Q rest (a.put o.dst undef) w') : wpList Try.prog ops Q (o :: rest) a w := by
  obtain ⟨f, h1, h2, h3⟩ := h
  refine wpList_upd w hg m x v 71 hop 3 30 Try.underlying71 Try.underlying3 sb f hm h1 j hx (.int .u64 y) hv ?_
  intro w' h4 h5 _
  refine hn w' ⟨_, h4, mset_nodup h2, fun i => ?_⟩ h5
  rw [mget_set]
  by_cases hi : i = j
  · rw [if_pos hi, hi, updM_same]; rfl
  · rw [if_neg hi, updM_other _ _ hi]; exact h3 i
theorem wpList_setDel (hg : o.guard = none) (m x : Operand) (hop : o.op = Op.call { callee := Callee.builtin Builtin.delete, args := #[m, x], argTypes := #[71, 3] }) (sb : Nat) (S : Int → Option Int) (hm : a.eval m = .map (some sb)) (h : SetB w sb S) (j : Int) (hx : a.eval x = .int .i64 j)
    (hn : ∀ w', SetB w' sb (updM S j none) → Keeps (· = sb) w w' → wpList Try.prog ops Q rest (a.put o.dst (.tuple #[])) w') : wpList Try.prog ops Q (o :: rest) a w := by
  obtain ⟨f, h1, h2, h3⟩ := h
  refine wpList_del w hg m x 71 3 hop 30 Try.underlying71 Try.underlying3 sb f hm h1 j hx ?_
  intro w' h4 h5 _
  refine hn w' ⟨_, h4, by rw [mkeys_del]; exact h2.erase _, fun i => ?_⟩ h5
  by_cases hi : i = j
  · rw [hi, updM_same]
    show _ = none
    rw [mget_none, mkeys_del]
    intro hc
    exact ((List.Nodup.mem_erase_iff h2).1 hc).1 rfl
  · rw [mget_del_other hi, updM_other _ _ hi]; exact h3 i
end
end Go.Proofs.Ytnickcjkipemmaa
