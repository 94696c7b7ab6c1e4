/- changed; Held, Loads, Stores; New -/
import Derived.Test.YtnickcjkipemmaaDfG
namespace Go.Proofs.Ytnickcjkipemmaa
open Go.RowKit

variable {w w' : World} {db pb cb : Nat} {keys most : Int} {D D' : Df} {O OL OP T : Nat → Prop}
theorem lent_drop {k : Int} {L : List Ent} {j : Nat} (h : j < L.length) : lent k (L.drop j) = if (L.getD j ent0).key = k then L.getD j ent0 else lent k (L.drop (j + 1)) := by
  rw [List.drop_eq_getElem_cons h, List.getD_eq_getElem?_getD, List.getElem?_eq_getElem h, Option.getD_some]
  unfold lent
  rw [lget]
  by_cases hk : L[j].key = k
  · rw [if_pos hk, if_pos hk]
  · rw [if_neg hk, if_neg hk]
set_option maxHeartbeats 2000000 in
set_option maxRecDepth 100000 in
theorem changed_any (h : DfAt w db pb keys most D O) (k : Int) :
    Calls Try.prog 56 #[.pointer (some ⟨db, 0, none⟩), .int .i64 k] w fun e w' => e = .returned (.bool (lent k D.L).dirty) ∧ Keeps Nil w w' := by
  obtain ⟨cb, OL, OP, h, rfl⟩ := h
  have hl : D.L.length ≤ 1000 := by have := h.len; have := h.most1; omega
  have c4 : w.cell? ⟨db, 4, none⟩ = some (.pointer (some ⟨cb, 0, none⟩)) := cell_of_heap h.blk 4
  have hA := Lib.hid (allX h.lru (by omega))
  obtain ⟨b, hb⟩ : ∃ b, (lent k D.L).dirty = b := ⟨_, rfl⟩
  rw [hb]
  have hb' := Lib.hid hb
  clear h hb
  go_enter Try.func56, Try.ntmps56
  go_wp2_with fail
  refine (hA.out).mono ?_
  rintro e w2 ⟨v, rfl, a, cap, rfl, hrow, hk2, hge⟩
  have hrow' := Lib.hid hrow
  have hk2' := Lib.hid hk2
  clear hrow hk2 hge hA c4
  go_wp2_with fail
  go_loopw [13, 6] (fun i _ wr => ∃ j : Nat, j ≤ D.L.length ∧ i = .int .i64 j ∧ Keeps Nil w2 wr ∧ Hid ((lent k (D.L.drop j)).dirty = b)) (fun i _ _ => D.L.length - (intOf i).toNat)
  case atStart => exact ⟨0, Nat.zero_le _, rfl, Keeps.refl _ _, Lib.hid (by rw [List.drop_zero]; exact hb'.out)⟩
  case round =>
    obtain ⟨j, hj, rfl, hK, hI⟩ := hrel
    by_cases hlt : j < D.L.length
    · obtain ⟨g, rfl, hent⟩ := EntRow.at' (RowAt.keeps hrow'.out hK (fun _ _ h => h)) hlt
      have hd := lent_drop (k := k) hlt
      obtain ⟨x, hx⟩ : ∃ x, D.L.getD j ent0 = x := ⟨_, rfl⟩
      rw [hx] at hent hd
      clear hx
      have c0 : wr.cell? ⟨g, j * 3, none⟩ = some (.int .i64 x.key) := hent.key
      have c1 : wr.cell? ⟨g, j * 3 + 1, none⟩ = some (.int .u64 x.val) := hent.val
      have c2 : wr.cell? ⟨g, j * 3 + 2, none⟩ = some (.bool x.dirty) := hent.dirty
      have hKn := Lib.hid (hK.alloc (.cells #[.int .i64 x.key, .int .u64 x.val, .bool x.dirty] 32))
      have hd' := Lib.hid hd
      clear hK hent hd
      by_cases hk : x.key = k
      · have e1 : (x.key == k) = true := by simpa using hk
        have hxb : x.dirty = b := by rw [← hI.out, hd'.out, if_pos hk]
        rw [hxb] at c2 hKn
        clear hk hxb hI
        go_wp2_with fail
        go_ret
        exact ⟨rfl, hk2'.out.trans hKn.out⟩
      · have e1 : (x.key == k) = false := by simpa using hk
        have hIn := Lib.hid (show (lent k (D.L.drop (j + 1))).dirty = b by rw [← hI.out, hd'.out, if_neg hk])
        clear hk hI
        go_wp2_with fail
        go_roundw
        case rel => exact ⟨j + 1, by omega, by go_num, hKn.out, hIn⟩
        case measure => simp [intOf]; omega
    · have e : D.L.drop j = [] := List.drop_eq_nil_of_le (by omega)
      rw [e] at hI
      have hbf : b = false := hI.out.symm
      have hK' := Lib.hid hK
      subst hbf
      clear hK hI
      go_wp2_with fail
      go_ret
      exact ⟨rfl, hk2'.out.trans hK'.out⟩
theorem held_any (h : DfAt w db pb keys most D O) : Calls Try.prog 37 #[.pointer (some ⟨db, 0, none⟩)] w fun e w' => e = .returned (.int .i64 (D.L.length : Nat)) ∧ w = w' := by
  obtain ⟨cb, OL, OP, h, rfl⟩ := h
  have c4 : w.cell? ⟨db, 4, none⟩ = some (.pointer (some ⟨cb, 0, none⟩)) := cell_of_heap h.blk 4
  have hA := Lib.hid (lenX h.lru)
  clear h
  go_enter Try.func37, Try.ntmps37
  go_wp2_with fail
  refine (hA.out).mono ?_
  rintro e w2 ⟨rfl, rfl⟩
  go_wp2_with fail
  go_ret
  exact ⟨rfl, rfl⟩
theorem loads_any (h : DfAt w db pb keys most D O) : Calls Try.prog 38 #[.pointer (some ⟨db, 0, none⟩)] w fun e w' => e = .returned (.int .i64 (D.P.loads : Nat)) ∧ w = w' := by
  obtain ⟨cb, OL, OP, h, rfl⟩ := h
  have c4 : w.cell? ⟨db, 5, none⟩ = some (.int .i64 (D.P.loads : Nat)) := cell_of_heap h.blk 5
  clear h
  go_enter Try.func38, Try.ntmps38
  go_wp2_with fail
  go_ret
  exact ⟨rfl, rfl⟩
theorem stores_any (h : DfAt w db pb keys most D O) : Calls Try.prog 39 #[.pointer (some ⟨db, 0, none⟩)] w fun e w' => e = .returned (.int .i64 (D.P.stores : Nat)) ∧ w = w' := by
  obtain ⟨cb, OL, OP, h, rfl⟩ := h
  have c4 : w.cell? ⟨db, 6, none⟩ = some (.int .i64 (D.P.stores : Nat)) := cell_of_heap h.blk 6
  clear h
  go_enter Try.func39, Try.ntmps39
  go_wp2_with fail
  go_ret
  exact ⟨rfl, rfl⟩


/-! ### New -/
def NewRaw (w : World) (pb : Nat) (keys per most : Int) (e : Ending) (w' : World) : Prop :=
  ∃ db cb OL, e = .returned (.tuple #[.pointer (some ⟨db, 0, none⟩), .int .i64 0]) ∧
    w'.heap[db]? = some (.cells #[.iface 61 (.pointer (some ⟨pb, 0, none⟩)), .int .i64 keys, .int .i64 per, .int .i64 most, .pointer (some ⟨cb, 0, none⟩), .int .i64 0, .int .i64 0] 102 (0, 0)) ∧
    LruX w' cb most [] OL ∧ Keeps Nil w w' ∧ w.heap.size ≤ db ∧ ¬ OL db ∧ ∀ k, OL k → w.heap.size ≤ k
set_option maxHeartbeats 2000000 in
set_option maxRecDepth 100000 in
theorem new_raw (pb : Nat) (keys per most : Int) (w : World) (hk : 1 ≤ keys ∧ keys ≤ 4096) (hp : 1 ≤ per ∧ per ≤ 1024) (hm : 1 ≤ most) :
    Calls Try.prog 30 #[.iface 61 (.pointer (some ⟨pb, 0, none⟩)), .int .i64 keys, .int .i64 per, .int .i64 most] w (NewRaw w pb keys per most) := by
  have hN := Lib.hid (newX most w hm)
  obtain ⟨k1, k2⟩ := hk
  obtain ⟨m1, m2⟩ := hp
  go_enter Try.func30, Try.ntmps30
  go_wp2_with fail
  refine (hN.out).mono ?_
  rintro e w2 ⟨cb, OL, rfl, hL, hk2, hO⟩
  have hL' := Lib.hid hL
  have hk2' := Lib.hid hk2
  have hO' := Lib.hid hO
  clear hL hk2 hO
  go_wp2_with fail
  go_ret2
  have s := (Keeps.refl Nil w2).alloc (.cells #[.iface 61 (.pointer (some ⟨pb, 0, none⟩)), .int .i64 keys, .int .i64 per, .int .i64 most, .pointer (some ⟨cb, 0, none⟩), .int .i64 0, .int .i64 0] 102)
  exact ⟨w2.heap.size, cb, OL, rfl, heap_alloc_new _ _, hL'.out.nil s, hk2'.out.trans s, hk2'.out.size, fun h => by have := hL'.out.lt h; omega, hO'.out⟩
theorem new_ok {OP : Nat → Prop} {P : Pg} (h : PgAt w pb P OP) (hk : 1 ≤ keys ∧ keys ≤ 4096) (hm : 1 ≤ most ∧ most ≤ 1000) (h0 : P.loads = 0) (h1 : P.stores = 0) :
    Calls Try.prog 30 #[.iface 61 (.pointer (some ⟨pb, 0, none⟩)), .int .i64 keys, .int .i64 (P.per : Nat), .int .i64 most] w fun e w' =>
      ∃ db O, e = .returned (.tuple #[.pointer (some ⟨db, 0, none⟩), .int .i64 0]) ∧ DfAt w' db pb keys most ⟨P, []⟩ O ∧ Keeps Nil w w' ∧ ∀ k, O k → OP k ∨ w.heap.size ≤ k := by
  have hp := h.per
  refine (new_raw pb keys (P.per : Nat) most w hk (by omega) hm.1).mono ?_
  rintro e w' ⟨db, cb, OL, rfl, hb, hL, hk2, hge, hnd, hO⟩
  refine ⟨db, down db OL OP, rfl, ⟨cb, OL, OP, ⟨?_, hL, h.keeps hk2 (fun _ _ h => h), hnd, fun ho => by have := h.lt db ho; omega, fun k hk ho => by have := h.lt k ho; have := hO k hk; omega, by simp; omega, hm, hk⟩, rfl⟩, hk2, fun k hk => ?_⟩
  · rw [hb, dfCells]
    show _ = some (Obj.cells #[_, _, _, _, _, .int .i64 (P.loads : Nat), .int .i64 (P.stores : Nat)] _ _)
    rw [h0, h1]; rfl
  · rcases hk with rfl | hk | hk
    · exact .inr hge
    · exact .inr (hO k hk)
    · exact .inl hk
end Go.Proofs.Ytnickcjkipemmaa
