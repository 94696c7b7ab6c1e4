/- the document's array: the calls, whatever the arguments -/
import Derived.Test.YtglpacdenfoicaaNgG
namespace Go.Proofs.Ytglpacdenfoicaa
open Go.RowKit

variable {w w0 w1 wr w' : World} {P : RfP} {O O' T : Nat → Prop} {A A' : Nd} {b : Nat}
theorem RfB.c7 (h : RfQ w P A O) : w.cell? ⟨P.rb, 7, none⟩ = some (.bool A.off) := by
  have c7 := RfB.cell h 7
  simp only [rfCells, List.getElem?_toArray, List.getElem?_cons_zero, List.getElem?_cons_succ] at c7
  exact c7
theorem RfB.c23 (h : RfQ w P A O) : w.cell? ⟨P.rb, 2, none⟩ = some (.int .i64 (A.S.pages : Nat)) ∧ w.cell? ⟨P.rb, 3, none⟩ = some (.int .i64 (A.S.bytes : Nat)) := by
  have c2 := RfB.cell h 2
  have c3 := RfB.cell h 3
  simp only [rfCells, List.getElem?_toArray, List.getElem?_cons_zero, List.getElem?_cons_succ] at c2 c3
  exact ⟨c2, c3⟩
set_option maxHeartbeats 2000000 in
set_option maxRecDepth 100000 in
theorem erase46_off (h : RfQ w P A O) (ho : A.off = true) (d n : Int) : Calls Try.prog 46 #[.pointer (some ⟨P.rb, 0, none⟩), .int .i64 d, .int .i64 n] w fun e w' => e = .returned (.int .i64 40) ∧ Keeps Nil w w' := by
  have c7 := RfB.c7 h
  rw [ho] at c7
  clear h ho
  go_enter Try.func46, Try.ntmps46
  go_wp2_with fail
  go_ret
  exact ⟨rfl, Keeps.refl _ _⟩
set_option maxHeartbeats 2000000 in
set_option maxRecDepth 100000 in
theorem erase46_arg (h : RfQ w P A O) (ho : A.off = false) (d n : Int) (hi : inAt A.S d n = false) : Calls Try.prog 46 #[.pointer (some ⟨P.rb, 0, none⟩), .int .i64 d, .int .i64 n] w fun e w' => e = .returned (.int .i64 1) ∧ Keeps Nil w w' := by
  have c7 := RfB.c7 h
  have hIn := Lib.hid (in65 h d n)
  rw [ho] at c7
  rw [hi] at hIn
  clear h ho hi
  go_enter Try.func46, Try.ntmps46
  go_wp2_with fail
  refine (hIn.out).mono ?_
  rintro e w3 ⟨rfl, hw3⟩
  rw [hw3]
  clear hw3 w3 hIn
  go_wp2_with fail
  go_ret
  exact ⟨rfl, Keeps.refl _ _⟩
set_option maxHeartbeats 2000000 in
set_option maxRecDepth 100000 in
theorem read47_off (h : RfQ w P A O) (ho : A.off = true) (d n p : Int) : Calls Try.prog 47 #[.pointer (some ⟨P.rb, 0, none⟩), .int .i64 d, .int .i64 n, .int .i64 p] w fun e w' => e = .returned (.tuple #[.slice none 0 0, .int .i64 40]) ∧ Keeps Nil w w' := by
  have c7 := RfB.c7 h
  rw [ho] at c7
  clear h ho
  go_enter Try.func47, Try.ntmps47
  go_wp2_with fail
  go_ret2
  exact ⟨rfl, Keeps.refl _ _⟩
set_option maxHeartbeats 2000000 in
set_option maxRecDepth 100000 in
theorem read47_arg (h : RfQ w P A O) (ho : A.off = false) (d n p : Int) (hi : inPg A.S d n p = false) : Calls Try.prog 47 #[.pointer (some ⟨P.rb, 0, none⟩), .int .i64 d, .int .i64 n, .int .i64 p] w fun e w' => e = .returned (.tuple #[.slice none 0 0, .int .i64 1]) ∧ Keeps Nil w w' := by
  have c7 := RfB.c7 h
  have c2 := (RfB.c23 h).1
  have hIn := Lib.hid (in65 h d n)
  rw [ho] at c7
  clear h ho
  have hc : (inAt A.S d n = false) ∨ (inAt A.S d n = true ∧ p < 0) ∨ (inAt A.S d n = true ∧ 0 ≤ p ∧ (A.S.pages : Int) ≤ p) := by
    unfold inPg at hi
    cases h1 : inAt A.S d n with
    | false => exact .inl rfl
    | true =>
      rw [h1, Bool.true_and, decide_eq_false_iff_not] at hi
      by_cases h2 : p < 0
      · exact .inr (.inl ⟨rfl, h2⟩)
      · exact .inr (.inr ⟨rfl, by omega, by omega⟩)
  obtain ⟨v, hv⟩ : ∃ v, inAt A.S d n = v := ⟨_, rfl⟩
  rw [hv] at hIn hc
  clear hi hv
  rcases hc with rfl | ⟨rfl, h1⟩ | ⟨rfl, h1, h2⟩
  all_goals
    go_enter Try.func47, Try.ntmps47
    go_wp2_with fail
    refine (hIn.out).mono ?_
    rintro e w3 ⟨rfl, hw3⟩
    rw [hw3]
    clear hw3 w3 hIn
    go_wp2_with fail
    go_ret2
    exact ⟨rfl, Keeps.refl _ _⟩
set_option maxHeartbeats 2000000 in
set_option maxRecDepth 100000 in
theorem prog45_off (h : RfQ w P A O) (ho : A.off = true) (d n p : Int) (v : Value) : Calls Try.prog 45 #[.pointer (some ⟨P.rb, 0, none⟩), .int .i64 d, .int .i64 n, .int .i64 p, v] w fun e w' => e = .returned (.int .i64 40) ∧ Keeps Nil w w' := by
  have c7 := RfB.c7 h
  rw [ho] at c7
  clear h ho
  go_enter Try.func45, Try.ntmps45
  go_wp2_with fail
  go_ret
  exact ⟨rfl, Keeps.refl _ _⟩
set_option maxHeartbeats 2000000 in
set_option maxRecDepth 100000 in
theorem prog45_arg (h : RfQ w P A O) (ho : A.off = false) (d n p : Int) {xa : Option Addr} {m xc : Nat} (hi : inPg A.S d n p = false ∨ ¬ m = A.S.bytes) : Calls Try.prog 45 #[.pointer (some ⟨P.rb, 0, none⟩), .int .i64 d, .int .i64 n, .int .i64 p, .slice xa m xc] w fun e w' => e = .returned (.int .i64 1) ∧ Keeps Nil w w' := by
  have c7 := RfB.c7 h
  obtain ⟨c2, c3⟩ := RfB.c23 h
  have hIn := Lib.hid (in65 h d n)
  rw [ho] at c7
  clear h ho
  obtain ⟨by_, hby⟩ : ∃ z : Int, ((A.S.bytes : Nat) : Int) = z := ⟨_, rfl⟩
  rw [hby] at c3
  have hc : (inAt A.S d n = false) ∨ (inAt A.S d n = true ∧ p < 0) ∨ (inAt A.S d n = true ∧ 0 ≤ p ∧ (A.S.pages : Int) ≤ p) ∨ (inAt A.S d n = true ∧ 0 ≤ p ∧ p < (A.S.pages : Int) ∧ ((m : Int) != by_) = true ∧ ((m : Int) == by_) = false) := by
    cases h1 : inAt A.S d n with
    | false => exact .inl rfl
    | true =>
      by_cases h2 : p < 0
      · exact .inr (.inl ⟨rfl, h2⟩)
      · by_cases h3 : (A.S.pages : Int) ≤ p
        · exact .inr (.inr (.inl ⟨rfl, by omega, h3⟩))
        · have hm : ¬ m = A.S.bytes := by
            rcases hi with hi | hi
            · exfalso
              unfold inPg at hi
              rw [h1, Bool.true_and, decide_eq_false_iff_not] at hi
              omega
            · exact hi
          refine .inr (.inr (.inr ⟨rfl, by omega, by omega, ?_, ?_⟩))
          · simp only [bne_iff_ne, ne_eq]; omega
          · simp only [beq_eq_false_iff_ne, ne_eq]; omega
  obtain ⟨v, hv⟩ : ∃ v, inAt A.S d n = v := ⟨_, rfl⟩
  rw [hv] at hIn hc
  clear hi hv hby
  rcases hc with rfl | ⟨rfl, h1⟩ | ⟨rfl, h1, h2⟩ | ⟨rfl, h1, h2, h3, h4⟩
  all_goals
    go_enter Try.func45, Try.ntmps45
    go_wp2_with fail
    refine (hIn.out).mono ?_
    rintro e w3 ⟨rfl, hw3⟩
    rw [hw3]
    clear hw3 w3 hIn
    go_wp2_with fail
    go_ret
    exact ⟨rfl, Keeps.refl _ _⟩
set_option maxHeartbeats 2000000 in
set_option maxRecDepth 100000 in
theorem prog45_order (h : RfQ w P A O) (hg : A.Good b) (hoff : A.off = false) {d n p : Nat} {xa : Option Addr} {xc : Nat} (hd : d < A.S.dies) (hn : n < A.S.blocks) (hp : p < A.S.pages) (hnx : ¬ (A.B d n).next = (p : Int)) : Calls Try.prog 45 #[.pointer (some ⟨P.rb, 0, none⟩), .int .i64 (d : Nat), .int .i64 (n : Nat), .int .i64 (p : Nat), .slice xa A.S.bytes xc] w fun e w' => e = .returned (.int .i64 42) ∧ Keeps Nil w w' := by
  have hIn := Lib.hid (in65 h d n)
  rw [show inAt A.S d n = true by unfold inAt; simp; omega] at hIn
  obtain ⟨db, hF⟩ := RfB.flat h hg.ok.S hd hn
  have c7 := RfB.c7 h
  obtain ⟨c2, c3⟩ := RfB.c23 h
  rw [hoff] at c7
  have kN := (RfB.cellD h hd hn).2.1
  obtain ⟨z, hz⟩ : ∃ z, (A.B d n).next = z := ⟨_, rfl⟩
  rw [hz] at kN hnx
  have e1 : ((p : Int) != z) = true := by simpa using fun e => hnx e.symm
  have e2 : ((p : Int) == z) = false := by simpa using fun e => hnx e.symm
  obtain ⟨m, w1, w2, lt, c1, c4⟩ := hF
  obtain ⟨ix, hix⟩ : ∃ ix, d * A.S.blocks + n = ix := ⟨_, rfl⟩
  obtain ⟨len, hlen⟩ : ∃ len, A.S.dies * A.S.blocks = len := ⟨_, rfl⟩
  obtain ⟨N, hN⟩ : ∃ N, A.S.blocks = N := ⟨_, rfl⟩
  rw [hix] at w2 lt kN
  rw [hlen] at lt c4
  rw [hN] at m c1
  have hpz : ¬ ((p : Int) < 0) := by omega
  have hpl : (p : Int) < (A.S.pages : Int) := by omega
  clear h hg hd hn hix hlen hN hnx hz hp
  go_enter Try.func45, Try.ntmps45
  go_wp2_with fail
  refine (hIn.out).mono ?_
  rintro e w3 ⟨rfl, hw3⟩
  rw [hw3]
  clear hw3 w3 hIn
  go_wp2_with fail
  go_quiet (fail)
  have kN := ((Keeps.refl Nil w).drewN nq).cell kN (fun h => h)
  clear c7 c1 c4 c2 c3 m w1 w2 lt
  go_wp2_with fail
  go_ret
  exact ⟨rfl, (Keeps.refl Nil w).drewN _⟩
/-! ### an array of the document's that the call made -/
structure RfO (w0 w : World) (P : RfP) (A : Nd) (b : Nat) (O : Nat → Prop) : Prop where
  q : RfQ w P A O
  good : A.Good b
  keep : Keeps Nil w0 w
  new : ∀ k, O k → w0.heap.size ≤ k
def RfR (w0 w : World) (P : RfP) (O : Nat → Prop) (r : Value) (A' : Nd) (b : Nat) (e : Ending) (w' : World) : Prop :=
  e = .returned r ∧ ∃ O', RfO w0 w' P A' b O' ∧ Keeps O w w' ∧ ∀ k, O' k → O k ∨ w.heap.size ≤ k
theorem RfO.nil (h : RfO w0 w P A b O) (hk : Keeps Nil w w') : RfO w0 w' P A b O := ⟨RfB.nil h.q hk, h.good, h.keep.trans hk, h.new⟩
theorem RfR.same {r : Value} {e : Ending} (h : RfO w0 w P A b O) (hk : Keeps Nil w w') (he : e = .returned r) : RfR w0 w P O r A (b + 1) e w' :=
  ⟨he, O, ⟨(h.nil hk).q, h.good.mono (Nat.le_succ b), (h.nil hk).keep, h.new⟩, hk.mono (fun _ h => h.elim), fun _ h => .inl h⟩
theorem RfO.step (h : RfO w0 w P A b O) {b' : Nat} (hI : RfI w P O w' A' O') (hg : A'.Good b') : RfO w0 w' P A' b' O' :=
  ⟨hI.1, hg, h.keep.trans' hI.2.1 (fun k hk => .inr (h.new k hk)), fun k hk => by
    rcases hI.2.2 k hk with q | q
    · exact h.new k q
    · exact Nat.le_trans h.keep.size q⟩
theorem RfRes.res {r : Value} {e : Ending} (h : RfO w0 w P A b O) (ho : RfRes w P O r A' e w') (hg : A'.Good (b + 1)) : RfR w0 w P O r A' (b + 1) e w' := by
  obtain ⟨h1, O', hI⟩ := ho
  exact ⟨h1, O', h.step hI hg, hI.2.1, hI.2.2⟩
theorem eraseR_any (h : RfO w0 w P A b O) (hb : b ≤ 1000000) (d n : Int) : Calls Try.prog 46 #[.pointer (some ⟨P.rb, 0, none⟩), .int .i64 d, .int .i64 n] w (RfR w0 w P O (.int .i64 (A.eraseI d n).1) (A.eraseI d n).2 (b + 1)) := by
  unfold Nd.eraseI
  by_cases ho : A.off = true
  · rw [if_pos ho]
    exact (erase46_off h.q ho d n).mono fun e w' ⟨h1, h2⟩ => RfR.same h h2 h1
  · rw [if_neg ho]
    have hof : A.off = false := by simpa using ho
    by_cases hi : inAt A.S d n = true
    · rw [if_neg (by rw [hi]; simp)]
      obtain ⟨i, j, rfl, rfl, hd, hn⟩ := inAt_t hi
      exact (erase46 h.q h.good hb hof hd hn).mono fun e w' ho => RfRes.res h ho (erase_good h.good i j)
    · have hi2 : inAt A.S d n = false := by simpa using hi
      rw [if_pos hi2]
      exact (erase46_arg h.q hof d n hi2).mono fun e w' ⟨h1, h2⟩ => RfR.same h h2 h1
theorem programR_any (h : RfO w0 w P A b O) (hb : b ≤ 1000000) (d n p : Int) {xa : Option Addr} {xc : Nat} {l : List Int} (hx : NumsAt .u8 w xa l) (hxO : ∀ g, blk xa = some g → ¬ O g) :
    Calls Try.prog 45 #[.pointer (some ⟨P.rb, 0, none⟩), .int .i64 d, .int .i64 n, .int .i64 p, .slice xa l.length xc] w (RfR w0 w P O (.int .i64 (A.programI d n p l).1) (A.programI d n p l).2 (b + 1)) := by
  unfold Nd.programI
  by_cases ho : A.off = true
  · rw [if_pos ho]
    exact (prog45_off h.q ho d n p _).mono fun e w' ⟨h1, h2⟩ => RfR.same h h2 h1
  · rw [if_neg ho]
    have hof : A.off = false := by simpa using ho
    by_cases hpg : inPg A.S d n p = true
    · by_cases hl : l.length = A.S.bytes
      · rw [if_neg (by rw [hpg, hl]; simp)]
        have hpg2 := hpg
        unfold inPg at hpg2
        rw [Bool.and_eq_true] at hpg2
        obtain ⟨i, j, rfl, rfl, hd, hn⟩ := inAt_t hpg2.1
        have hp := of_decide_eq_true hpg2.2
        obtain ⟨q, rfl⟩ := Int.eq_ofNat_of_zero_le hp.1
        have hq : q < A.S.pages := by omega
        simp only [Int.toNat_natCast]
        by_cases hx2 : (A.B i j).next = (q : Int)
        · rw [if_neg (by simpa using hx2)]
          have := prog45 (xc := xc) h.q h.good hb hof hd hn hq hx2 hx hxO hl
          rw [← hl] at this
          exact this.mono fun e w' ho => RfRes.res h ho (prog_good h.good i j hq hl)
        · rw [if_pos hx2]
          have := prog45_order (xa := xa) (xc := xc) h.q h.good hof hd hn hq hx2
          rw [← hl] at this
          exact this.mono fun e w' ⟨h1, h2⟩ => RfR.same h h2 h1
      · rw [if_pos (by rw [hpg]; simpa using hl)]
        exact (prog45_arg h.q hof d n p (.inr hl)).mono fun e w' ⟨h1, h2⟩ => RfR.same h h2 h1
    · have hpg2 : inPg A.S d n p = false := by simpa using hpg
      rw [if_pos (by rw [hpg2]; rfl)]
      exact (prog45_arg h.q hof d n p (.inl hpg2)).mono fun e w' ⟨h1, h2⟩ => RfR.same h h2 h1
def RrR (w0 w : World) (P : RfP) (O : Nat → Prop) (c : Int) (out : Option (List Int)) (A' : Nd) (b : Nat) (e : Ending) (w' : World) : Prop :=
  ∃ v, e = .returned (.tuple #[v, .int .i64 c]) ∧ ∃ O', RfO w0 w' P A' b O' ∧ Keeps O w w' ∧ (∀ k, O' k → O k ∨ w.heap.size ≤ k) ∧ RdVal w w' O' v out
theorem RrR.same {e : Ending} {c : Int} (h : RfO w0 w P A b O) (hk : Keeps Nil w w') (he : e = .returned (.tuple #[.slice none 0 0, .int .i64 c])) : RrR w0 w P O c none A (b + 1) e w' :=
  ⟨_, he, O, ⟨(h.nil hk).q, h.good.mono (Nat.le_succ b), (h.nil hk).keep, h.new⟩, hk.mono (fun _ h => h.elim), fun _ h => .inl h, rfl⟩
theorem readR_any (h : RfO w0 w P A b O) (hb : b ≤ 1000000) (d n p : Int) : Calls Try.prog 47 #[.pointer (some ⟨P.rb, 0, none⟩), .int .i64 d, .int .i64 n, .int .i64 p] w (RrR w0 w P O (A.readI d n p).1 (A.readOutI d n p) (A.readI d n p).2 (b + 1)) := by
  unfold Nd.readI Nd.readOutI
  by_cases ho : A.off = true
  · rw [if_pos ho, if_pos ho]
    exact (read47_off h.q ho d n p).mono fun e w' ⟨h1, h2⟩ => RrR.same h h2 h1
  · rw [if_neg ho, if_neg ho]
    have hof : A.off = false := by simpa using ho
    by_cases hpg : inPg A.S d n p = true
    · rw [if_neg (by rw [hpg]; simp), if_neg (by rw [hpg]; simp)]
      have hpg2 := hpg
      unfold inPg at hpg2
      rw [Bool.and_eq_true] at hpg2
      obtain ⟨i, j, rfl, rfl, hd, hn⟩ := inAt_t hpg2.1
      have hp := of_decide_eq_true hpg2.2
      obtain ⟨q, rfl⟩ := Int.eq_ofNat_of_zero_le hp.1
      have hq : q < A.S.pages := by omega
      simp only [Int.toNat_natCast]
      refine (read47 h.q h.good hb hof hd hn hq).mono fun e w' ho => ?_
      obtain ⟨v, h1, O', hI, h2⟩ := ho
      exact ⟨v, h1, O', h.step hI (read_good h.good i j q), hI.2.1, hI.2.2, h2⟩
    · have hpg2 : inPg A.S d n p = false := by simpa using hpg
      rw [if_pos hpg2, if_pos hpg2]
      exact (read47_arg h.q hof d n p hpg2).mono fun e w' ⟨h1, h2⟩ => RrR.same h h2 h1
end Go.Proofs.Ytglpacdenfoicaa
