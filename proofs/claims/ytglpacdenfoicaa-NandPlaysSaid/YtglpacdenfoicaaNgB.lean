/- the document's array: its small functions -/
import Derived.Test.YtglpacdenfoicaaNgA
namespace Go.Proofs.Ytglpacdenfoicaa
open Go.RowKit

variable {w w' : World} {rb bb bc fc lc : Nat} {pb pc : Nat → Nat} {fa la : Option Addr} {L : List Fx} {A A' : Nd} {O T : Nat → Prop}
set_option maxHeartbeats 1000000 in
theorem in65 (h : RfB w rb A bb bc pb pc fa fc la lc L O) (d n : Int) : Calls Try.prog 65 #[.pointer (some ⟨rb, 0, none⟩), .int .i64 d, .int .i64 n] w fun e w' => e = .returned (.bool (inAt A.S d n)) ∧ w' = w := by
  have c0 := h.cell 0
  have c1 := h.cell 1
  simp only [rfCells, List.getElem?_toArray, List.getElem?_cons_zero, List.getElem?_cons_succ] at c0 c1
  clear h
  obtain ⟨r, hr⟩ : ∃ r, inAt A.S d n = r := ⟨_, rfl⟩
  rw [hr]
  have hcs : (r = false ∧ d < 0) ∨ (r = false ∧ 0 ≤ d ∧ (A.S.dies : Int) ≤ d) ∨ (r = false ∧ 0 ≤ d ∧ d < (A.S.dies : Int) ∧ n < 0) ∨ (r = false ∧ 0 ≤ d ∧ d < (A.S.dies : Int) ∧ 0 ≤ n ∧ (A.S.blocks : Int) ≤ n) ∨ (r = true ∧ 0 ≤ d ∧ d < (A.S.dies : Int) ∧ 0 ≤ n ∧ n < (A.S.blocks : Int)) := by
    rw [← hr]
    unfold inAt
    rw [decide_eq_false_iff_not, decide_eq_true_eq]
    omega
  clear hr
  rcases hcs with ⟨rfl, h1⟩ | ⟨rfl, h1, h2⟩ | ⟨rfl, h1, h2, h3⟩ | ⟨rfl, h1, h2, h3, h4⟩ | ⟨rfl, h1, h2, h3, h4⟩
  all_goals
    go_enter Try.func65, Try.ntmps65
    go_wp2_with fail
    go_ret
    first
      | exact ⟨rfl, rfl⟩
      | (refine ⟨?_, rfl⟩
         show Ending.returned (Value.bool (decide (n < (A.S.blocks : Int)))) = _
         first
           | rw [decide_eq_false (by omega)]
           | rw [decide_eq_true (by omega)])
theorem begin66 (h : RfB w rb A bb bc pb pc fa fc la lc L O) {b : Nat} (hb : A.ops ≤ b) (hb2 : b ≤ 1000000) : Calls Try.prog 66 #[.pointer (some ⟨rb, 0, none⟩)] w fun e w' => e = .returned (.int .i64 (A.ops : Nat)) ∧ RfB w' rb { A with ops := A.ops + 1 } bb bc pb pc fa fc la lc L O ∧ Keeps (· = rb) w w' := by
  have c8 := h.cell 8
  have f8 := frozen_of_heap h.blk 8
  simp only [rfCells, List.getElem?_toArray, List.getElem?_cons_zero, List.getElem?_cons_succ] at c8
  have hk : Keeps (· = rb) w (w.setCell ⟨rb, 8, none⟩ (.int .i64 ((A.ops : Int) + 1))) := (Keeps.refl (· = rb) w).setCell (.inl rfl) _
  have hD := Lib.hid (show RfB (w.setCell ⟨rb, 8, none⟩ (.int .i64 ((A.ops : Int) + 1))) rb { A with ops := A.ops + 1 } bb bc pb pc fa fc la lc L O from h.editA hk (by rw [heap_setCell_same h.blk]; simp [rfCells]) rfl rfl rfl)
  obtain ⟨o, ho⟩ : ∃ o, A.ops = o := ⟨_, rfl⟩
  rw [ho] at c8 hD hb hk ⊢
  have hk' := Lib.hid hk
  have ho' := Lib.hid ho
  clear h hk ho
  go_enter Try.func66, Try.ntmps66
  go_wp2_with fail
  go_ret
  exact ⟨rfl, hD.out, hk'.out⟩
/-- a fault's cells -/
theorem RfB.fault (h : RfB w rb A bb bc pb pc fa fc la lc L O) {k : Nat} {x : Fx} (hx : L[k]? = some x) : ∃ g, fa = some ⟨g, 0, none⟩ ∧ w.cell? ⟨g, k * 8, none⟩ = some (.int .i64 x.f.kind) ∧ w.cell? ⟨g, k * 8 + 1, none⟩ = some (.int .i64 x.f.time) ∧ w.cell? ⟨g, k * 8 + 2, none⟩ = some (.int .i64 x.f.die) ∧
    w.cell? ⟨g, k * 8 + 3, none⟩ = some (.int .i64 x.f.block) ∧ w.cell? ⟨g, k * 8 + 4, none⟩ = some (.int .i64 x.f.page) ∧ w.cell? ⟨g, k * 8 + 5, none⟩ = some (.int .i64 x.f.times) ∧ w.cell? ⟨g, k * 8 + 6, none⟩ = some (.int .i64 x.f.part) ∧ w.cell? ⟨g, k * 8 + 7, none⟩ = some (.slice x.a x.f.bits.length x.c) := by
  obtain ⟨g, h1, _, _, hc⟩ := h.fts.cell encF_len hx
  have c0 := hc 0 _ (by decide) rfl
  rw [Nat.add_zero] at c0
  exact ⟨g, h1, c0, hc 1 _ (by decide) rfl, hc 2 _ (by decide) rfl, hc 3 _ (by decide) rfl, hc 4 _ (by decide) rfl, hc 5 _ (by decide) rfl, hc 6 _ (by decide) rfl, hc 7 _ (by decide) rfl⟩
def cutV (o : Option Int) : Array Value := match o with
  | some p => #[.int .i64 p, .bool true]
  | none => #[.int .i64 0, .bool false]
theorem find_drop {p : Fx → Bool} {L : List Fx} {k : Nat} {x : Fx} (hx : L[k]? = some x) : (L.drop k).find? p = if p x = true then some x else (L.drop (k + 1)).find? p := by
  obtain ⟨h1, h2⟩ := List.getElem?_eq_some_iff.1 hx
  rw [List.drop_eq_getElem_cons h1, h2, List.find?_cons]
  cases p x <;> rfl
theorem any_drop {p : Fx → Bool} {L : List Fx} {k : Nat} {x : Fx} (hx : L[k]? = some x) : (L.drop k).any p = (p x || (L.drop (k + 1)).any p) := by
  obtain ⟨h1, h2⟩ := List.getElem?_eq_some_iff.1 hx
  rw [List.drop_eq_getElem_cons h1, h2, List.any_cons]
set_option maxHeartbeats 2000000 in
set_option maxRecDepth 100000 in
theorem cut67 (h : RfB w rb A bb bc pb pc fa fc la lc L O) (hn : L.length ≤ 2000) (op : Int) : Calls Try.prog 67 #[.pointer (some ⟨rb, 0, none⟩), .int .i64 op] w fun e w' => e = .returned (.tuple (cutV (A.cut op))) ∧ w' = w := by
  have c5 := h.cell 5
  simp only [rfCells, List.getElem?_toArray, List.getElem?_cons_zero, List.getElem?_cons_succ] at c5
  have hcut := h.cut op
  obtain ⟨r, hr⟩ : ∃ r, A.cut op = r := ⟨_, rfl⟩
  rw [hr] at hcut ⊢
  have hcut' := Lib.hid hcut
  have h' := Lib.hid h
  clear h hcut hr
  go_enter Try.func67, Try.ntmps67
  go_wp2_with fail
  go_loopw [6] (fun i wr => ∃ k : Nat, k ≤ L.length ∧ i = .int .i64 k ∧ wr = w ∧ Hid (((L.drop k).find? (fun x => x.f.cuts op)).map (·.f.part) = r)) (fun i _ => L.length - (intOf i).toNat)
  case atStart => exact ⟨0, Nat.zero_le _, rfl, rfl, Lib.hid hcut'.out⟩
  case round =>
    obtain ⟨k, hk, rfl, rfl, hrel⟩ := hrel
    by_cases hlt : k < L.length
    · obtain ⟨x, hx⟩ : ∃ x, L[k]? = some x := ⟨L[k], List.getElem?_eq_getElem hlt⟩
      obtain ⟨g, rfl, q0, q1, _, _, _, _, q6, _⟩ := h'.out.fault hx
      have hrel2 := hrel.out
      rw [find_drop hx] at hrel2
      have hx' := Lib.hid hx
      rcases cuts_cases x.f op with ⟨e1, e2⟩ | ⟨e1, e2⟩
      · rw [e1, if_neg (by simp)] at hrel2
        have hrel' := Lib.hid hrel2
        clear hrel hrel2 hx e1
        go_wp2_with fail
        go_roundw
        case rel => exact ⟨k + 1, by omega, by go_num, by first | rfl | trivial, hrel'⟩
        case measure => simp [intOf]; omega
      · obtain ⟨v, hv⟩ : ∃ v, (x.f.time == op) = v := ⟨_, rfl⟩
        rw [e1, hv] at hrel2
        cases v with
        | false =>
          rw [if_neg (by simp)] at hrel2
          have hrel' := Lib.hid hrel2
          clear hrel hrel2 hx e1
          go_wp2_with fail
          go_roundw
          case rel => exact ⟨k + 1, by omega, by go_num, by first | rfl | trivial, hrel'⟩
          case measure => simp [intOf]; omega
        | true =>
          rw [if_pos rfl] at hrel2
          have hrel' := Lib.hid hrel2
          clear hrel hrel2 hx e1
          go_wp2_with fail
          go_ret2
          rw [← hrel'.out]
          exact ⟨rfl, rfl⟩
    · have hkl : k = L.length := by omega
      have hrel2 := hrel.out
      rw [hkl, List.drop_length] at hrel2
      have hrel' := Lib.hid hrel2
      clear hrel hrel2 hkl
      go_wp2_with fail
      go_ret2
      rw [← hrel'.out]
      exact ⟨rfl, rfl⟩
set_option maxHeartbeats 4000000 in
set_option maxRecDepth 100000 in
theorem struck68 (h : RfB w rb A bb bc pb pc fa fc la lc L O) (hn : L.length ≤ 2000) (op kind die n : Int) : Calls Try.prog 68 #[.pointer (some ⟨rb, 0, none⟩), .int .i64 op, .int .i64 kind, .int .i64 die, .int .i64 n] w fun e w' => e = .returned (.bool (A.struck op kind die n)) ∧ Keeps Nil w w' := by
  have hs := h.struck op kind die n
  obtain ⟨r, hr⟩ : ∃ r, A.struck op kind die n = r := ⟨_, rfl⟩
  rw [hr] at hs ⊢
  have hs' := Lib.hid hs
  have h' := Lib.hid h
  clear h hs hr
  go_enter Try.func68, Try.ntmps68
  go_wp2_with fail
  go_loopw [11] (fun i wr => ∃ k : Nat, k ≤ L.length ∧ i = .int .i64 k ∧ Keeps Nil w wr ∧ Hid ((L.drop k).any (fun x => x.f.hits op kind die n) = r)) (fun i _ => L.length - (intOf i).toNat)
  case atStart => exact ⟨0, Nat.zero_le _, rfl, Keeps.refl _ _, Lib.hid hs'.out⟩
  case round =>
    obtain ⟨k, hk, rfl, hkp, hrel⟩ := hrel
    have hw := h'.out.nil hkp
    have c5 := hw.cell 5
    simp only [rfCells, List.getElem?_toArray, List.getElem?_cons_zero, List.getElem?_cons_succ] at c5
    by_cases hlt : k < L.length
    · obtain ⟨x, hx⟩ : ∃ x, L[k]? = some x := ⟨L[k], List.getElem?_eq_getElem hlt⟩
      obtain ⟨g, rfl, q0, q1, q2, q3, q4, q5, q6, q7⟩ := hw.fault hx
      have hrel2 := hrel.out
      rw [any_drop hx] at hrel2
      have hkp' := Lib.hid (hkp.alloc (.cells #[.int .i64 x.f.kind, .int .i64 x.f.time, .int .i64 x.f.die, .int .i64 x.f.block, .int .i64 x.f.page, .int .i64 x.f.times, .int .i64 x.f.part, .slice x.a x.f.bits.length x.c] 33))
      obtain ⟨v, hv⟩ : ∃ v, x.f.hits op kind die n = v := ⟨_, rfl⟩
      rw [hv] at hrel2
      have hc := hits_cases x.f op kind die n
      rw [hv] at hc
      clear hw hkp hx hrel hv
      cases v with
      | false =>
        rw [Bool.false_or] at hrel2
        have hrel' := Lib.hid hrel2
        clear hrel2
        rcases hc with ⟨_, h1⟩ | ⟨_, h1, h2, h3⟩ | ⟨_, h1, h2 | ⟨h2, h3⟩, h4⟩ | ⟨h0, h1, h2 | ⟨h2, h3⟩, h4, h5⟩ | ⟨h0, h1, h2 | ⟨h2, h3⟩, h4, h5⟩
        all_goals
          first
            | (exfalso; cases h0; done)
            | (try replace h0 := h0.symm
               go_wp2_with fail
               all_goals
                 go_roundw
                 case rel => exact ⟨k + 1, by omega, by go_num, hkp'.out, hrel'⟩
                 case measure => simp [intOf]; omega)
      | true =>
        rw [Bool.true_or] at hrel2
        subst hrel2
        rcases hc with ⟨h0, h1⟩ | ⟨h0, h1, h2, h3⟩ | ⟨h0, h1, h2 | ⟨h2, h3⟩, h4⟩ | ⟨h0, h1, h2 | ⟨h2, h3⟩, h4, h5⟩ | ⟨h0, h1, h2 | ⟨h2, h3⟩, h4, h5⟩
        all_goals
          first
            | (exfalso; cases h0; done)
            | (try replace h0 := h0.symm
               go_wp2_with fail
               all_goals
                 go_ret
                 exact ⟨rfl, hkp'.out⟩)
    · have hkl : k = L.length := by omega
      have hrel2 := hrel.out
      rw [hkl, List.drop_length] at hrel2
      have hkp' := Lib.hid hkp
      have hrel' := Lib.hid hrel2
      clear hrel hrel2 hkl hkp hw
      go_wp2_with fail
      go_ret
      rw [← hrel'.out]
      exact ⟨rfl, hkp'.out⟩
end Go.Proofs.Ytglpacdenfoicaa
