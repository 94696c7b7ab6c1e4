/- slices.Delete of one number, in a row of the call's own -/
import Derived.Test.YtcejapdjkkmkaaaA
import Derived.Deep.RegionLaw
import Derived.Lib.SliceRun
namespace Go.Proofs.Ytcejapdjkkmkaaa
open Go.RowKit

attribute [local go_sem ↓] Go.wp_at_zero Go.wp_at_succ

/-- append within the room, at a step of a region -/
theorem step_room {P : Program} {w : World} {ops : Array Oper} {o : Oper} {a : Act} {K : Act → World → Prop} {Q : Exit → Act → World → Prop} {E : Prop} (hgd : o.guard = none) (s x : Operand) (t : TypeId)
    (ho : o.op = .call { callee := .builtin .append, args := #[s, x], argTypes := #[t, t] }) (e : TypeId) (i : TypeInfo) (ht : P.underlying t = some (.slice e)) (hi : P.info? e = some i) (hsize : i.size = 1)
    (g n cap : Nat) (cur : Array Value) (hs : a.eval s = .slice (some ⟨g, 0, none⟩) n cap) (ad : Addr) (m c : Nat) (news : List Value) (hx : a.eval x = .slice (some ad) m c)
    (hg : w.heap[g]? = some (.cells cur e (0, 0))) (hsrc : Src w (some ad) 1 m news) (h1 : ∀ u ∈ news, u.oneCell' = true) (r : Nat) (hr0 : n + m = r) (hroom : r ≤ cap) (hfit : r ≤ cur.size)
    (h : ∀ w', w'.heap[g]? = some (.cells (cur.toList.take n ++ news ++ cur.toList.drop r).toArray e (0, 0)) → Keeps (· = g) w w' → w'.heap.size = w.heap.size → K (a.put o.dst (.slice (some ⟨g, 0, none⟩) r cap)) w') :
    if Region.wanted o (yielded ops a.tmps) = true then Oper.wp P o a w K Q else E := by
  subst hr0
  have hw : Region.wanted o (yielded ops a.tmps) = true := by simp [Region.wanted, hgd]
  rw [if_pos hw]
  have hl : news.length = m := by simpa using hsrc.1
  have hr := run_append_room (P := P) w t o.type e i ht hi g n cap cur hg ad m c news (by rw [hl, hsize, Nat.mul_one]) (hsrc.2.2 ad rfl) h1 hroom (by rw [hsize, hl, Nat.mul_one]; exact hfit)
  rw [hsize, Nat.mul_one, hl] at hr
  unfold Oper.wp execOp
  simp only [ho, resolve, invoke, builtin, Sem.run_bind, Sem.run_pure, Result.andThen_ok, List.map_toArray, List.map_cons, List.map_nil, hs, hx, hr]
  exact h _ (setRow_heap w g cur _ e (0, 0) hg) ((Keeps.refl (· = g) w).setRow (.inl rfl) _) (by simp [World.setRow])

theorem zero3 (w : World) : (zeroValue 3).run Try.prog w = .ok (.int .i64 0) w := by kernel_rfl

theorem setCells_one (w : World) (g o : Nat) (v : Value) : w.setCells g o [v] = w.setCell ⟨g, o, none⟩ v := rfl

/-- The row of the keys. -/
def KeyRow (w : World) (a : Option Addr) (cap : Nat) (ks : List Int) : Prop := RowAt w 3 1 a ks.length cap (ks.map (Value.int .i64))
theorem KeyRow.ints {w : World} {a : Option Addr} {cap : Nat} {ks : List Int} (h : KeyRow w a cap ks) : IntsAt w a ks := by
  intro j hj
  rcases h.form with ⟨_, h2, _⟩ | ⟨g, cur, ha, hn, hh, hs, ht⟩
  · omega
  · subst ha
    refine ⟨g, 0, rfl, ?_⟩
    have := h.src.2.2 ⟨g, 0, none⟩ rfl j (.int .i64 (gi ks j)) (by simp [gi_eq hj, hj])
    rw [Addr.add_lit] at this
    exact this

theorem del_some {w : World} {g : Nat} {cur : Array Value} {ks : List Int} {i r : Nat} (h : w.heap[g]? = some (.cells ((cur.toList.take i ++ (ks.drop (i + 1)).map (Value.int .i64) ++ cur.toList.drop r)).toArray 3 (0, 0))) (hr : ks.length = r + 1) (hc : ks.length ≤ cur.size) (hi : i < ks.length) :
    ∀ j, j < ks.length - r → (w.cell? ⟨g, r + j, none⟩).isSome = true := by
  intro j hj
  have hl : r + j < ((cur.toList.take i ++ (ks.drop (i + 1)).map (Value.int .i64) ++ cur.toList.drop r)).toArray.size := by simp; omega
  simp only [World.cell?, h]
  simp
  omega

theorem del_row {w w1 : World} {g cap : Nat} {cur : Array Value} {ks : List Int} {i r : Nat} (h : w1.heap[g]? = some (.cells ((cur.toList.take i ++ (ks.drop (i + 1)).map (Value.int .i64) ++ cur.toList.drop r)).toArray 3 (0, 0))) (hr : ks.length = r + 1) (hc : cur.size = cap) (hcap : cap ≤ maxLen) (hn : ks.length ≤ cap) (hi : i < ks.length)
    (hct : cur.toList.take ks.length = ks.map (Value.int .i64)) (hk : Keeps (· = g) w w1) (hs : w1.heap.size = w.heap.size) :
    KeyRow (w1.setCells g r (List.replicate (ks.length - r) (.int .i64 0))) (some ⟨g, 0, none⟩) cap (ks.eraseIdx i) ∧ Keeps (· = g) w (w1.setCells g r (List.replicate (ks.length - r) (.int .i64 0))) ∧ (w1.setCells g r (List.replicate (ks.length - r) (.int .i64 0))).heap.size = w.heap.size := by
  have e1 : ks.length - r = 1 := by omega
  rw [e1, List.replicate_one, setCells_one]
  have hel : (ks.eraseIdx i).length = r := by rw [List.length_eraseIdx]; simp [hi]; omega
  refine ⟨⟨by simp, .inr ⟨g, cap, _, by rw [hel], Nat.zero_le _, heap_setCell_same h r (.int .i64 0), by omega, hcap, ?_, ?_⟩⟩, hk.setCell (.inl rfl) _, ?_⟩
  · simp; omega
  · have htk : cur.toList.take i = (ks.take i).map (Value.int .i64) := by
      have := congrArg (List.take i) hct
      rw [List.take_take, ← List.map_take, Nat.min_eq_left (by omega)] at this
      exact this
    have h1 : (cur.toList.take i ++ (ks.drop (i + 1)).map (Value.int .i64)).length = r := by simp; omega
    rw [hel, Nat.mul_one]
    simp only [Array.toList_setIfInBounds]
    rw [List.take_set_of_le (by omega), List.take_append_of_le_length (by omega), List.take_of_length_le (by omega), htk, ← List.map_append, List.eraseIdx_eq_take_drop_succ]
  · simp [World.setCell, h, hs]

set_option maxHeartbeats 2000000 in
set_option maxRecDepth 100000 in
theorem delete_any {w : World} {g cap : Nat} {ks : List Int} (h : KeyRow w (some ⟨g, 0, none⟩) cap ks) {i : Nat} (hi : i < ks.length) (hlen : ks.length ≤ 140737488351232) :
    Calls Try.prog 23 #[.slice (some ⟨g, 0, none⟩) ks.length cap, .int .i64 i, .int .i64 ((i : Int) + 1)] w fun e w' => e = .returned (.slice (some ⟨g, 0, none⟩) (ks.length - 1) cap) ∧ KeyRow w' (some ⟨g, 0, none⟩) cap (ks.eraseIdx i) ∧ Keeps (· = g) w w' ∧ w'.heap.size = w.heap.size := by
  obtain ⟨i3, hi3, hz0, hz1, hz2⟩ := info_parts info3
  obtain ⟨cur, hg, hnc, hcs, hct⟩ : ∃ cur : Array Value, w.heap[g]? = some (.cells cur 3) ∧ ks.length ≤ cap ∧ cur.size = cap ∧ cur.toList.take ks.length = ks.map (Value.int .i64) := by
    rcases h.form with ⟨h1, _⟩ | ⟨g', cur, ha, hn, hh, hs, ht⟩
    · cases h1
    · cases ha; exact ⟨cur, hh, hn, by simpa using hs, by simpa using ht⟩
  have hcapm : cap ≤ 9223372036854775807 := by
    rcases h.2 with ⟨h1, _⟩ | ⟨g', cap', cur', hv, hb, hh, r1, r2, r3, r4⟩
    · cases h1
    · simp only [Value.slice.injEq] at hv; rw [hv.2.2]; unfold maxLen at r2; omega
  have hsrc : Src w (some ⟨g, 0, none⟩) 1 ks.length (ks.map (Value.int .i64)) := h.src
  have hcell : ∀ j, j < ks.length → w.cell? ⟨g, j, none⟩ = some (.int .i64 (gi ks j)) := fun j hj => by
    have := hsrc.2.2 ⟨g, 0, none⟩ rfl j (.int .i64 (gi ks j)) (by simp [gi_eq hj, hj])
    rw [Addr.add_lit, Nat.zero_add] at this
    exact this
  obtain ⟨A, hA, hnews⟩ : ∃ A : Addr, (if cap = i + 1 then some (⟨g, 0, none⟩ : Addr) else some ⟨g, i + 1, none⟩) = some A ∧ Src w.drew (some A) 1 (ks.length - (i + 1)) ((ks.drop (i + 1)).map (Value.int .i64)) := by
    by_cases hc : cap = i + 1
    · have h0 : ks.drop (i + 1) = [] := List.drop_eq_nil_of_le (by omega)
      refine ⟨⟨g, 0, none⟩, by simp [hc], ?_⟩
      rw [h0]
      refine ⟨by simp; omega, (fun hn => by cases hn), fun A _ j u hu => by simp at hu⟩
    · refine ⟨⟨g, i + 1, none⟩, by simp [hc], by simp, (by intro hn; cases hn), fun A hA j u hu => ?_⟩
      cases hA
      have hj : j < ks.length - (i + 1) := by
        have := (List.getElem?_eq_some_iff.1 hu).1
        simpa using this
      rw [Addr.add_lit]
      have hu' : u = .int .i64 (gi ks (i + 1 + j)) := by
        rw [List.getElem?_map, List.getElem?_drop] at hu
        rw [show ks[i + 1 + j]? = some (gi ks (i + 1 + j)) by rw [gi_eq (by omega)]; exact List.getElem?_eq_getElem (by omega)] at hu
        simpa using hu.symm
      rw [hu']
      exact hcell (i + 1 + j) (by omega)
  have hg' := Lib.hid hg
  have hct' := Lib.hid hct
  have hcs' := Lib.hid hcs
  have h' := Lib.hid h
  have hnews' := Lib.hid hnews
  have hone : Hid (∀ u ∈ (ks.drop (i + 1)).map (Value.int .i64), u.oneCell' = true) := by
    intro u hu
    obtain ⟨x, _, rfl⟩ := List.mem_map.1 hu
    rfl
  have e1 : ((i : Int) == (i : Int) + 1) = false := by simp; omega
  have hp0 : (0 : Int) ≤ (i : Int) + 1 := by omega
  have hp1 : (i : Int) + 1 ≤ (ks.length : Int) := by omega
  have hp2 : ((i : Int) + 1).toNat = i + 1 := by omega
  have hp3 : i ≤ cap := by omega
  have hp4 : i + 1 ≤ cap := by omega
  obtain ⟨r, hr⟩ : ∃ r, ks.length = r + 1 := ⟨ks.length - 1, by omega⟩
  have f0 : i + (ks.length - (i + 1)) = r := by omega
  have f1 : r ≤ cap := by omega
  have f2 : r ≤ cur.size := by omega
  have f3 : r < cap := by omega
  have hr' := Lib.hid hr
  clear hr
  clear h hg hct hcs hsrc hcell hnews
  go_enter Try.func23, Try.ntmps23
  go_wp2_with fail
  go_region_law (refine step_room rfl (.tmp 22) (.tmp 25) 22 rfl 3 i3 Try.underlying22 hi3 hz1 g i cap cur (by simp [Act.eval, Act.put]) A (ks.length - (i + 1)) (cap - (i + 1)) _ (by simp [Act.eval, Act.put]) hg'.out hnews'.out hone.out r f0 f1 f2 ?_; intro w1 hw1 hk1 hs1; have hcl : ∀ ty, (Builtin.clear_ #[22] ty #[.slice (some ⟨g, r, none⟩) (ks.length - r) (cap - r)]).run Try.prog w1 = .ok (.tuple #[]) (w1.setCells g r (List.replicate (ks.length - r) (.int .i64 0))) := (fun ty => Lib.run_clear_slice w1 22 3 ty (.int .i64 0) Try.underlying22 zero3 rfl rfl g r _ _ (by have := hr'.out; omega) (del_some hw1 hr'.out (by have := hcs'.out; omega) hi) (fun j _ => by simp [World.frozen?, hw1])))
  go_wp2_with (simp only [hcl])
  go_ret
  have hd := del_row hw1 hr'.out hcs'.out (show cap ≤ maxLen by unfold maxLen; omega) hnc hi hct'.out ((Keeps.refl (· = g) w).drew.trans hk1) hs1
  exact ⟨by rw [show ks.length - 1 = r by have := hr'.out; omega]; rfl, hd⟩
end Go.Proofs.Ytcejapdjkkmkaaa
