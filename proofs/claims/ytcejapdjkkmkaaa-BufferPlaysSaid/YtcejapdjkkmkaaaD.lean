/- note: a key that is there, a full buffer, a new key -/
import Derived.Test.YtcejapdjkkmkaaaC
import Derived.Deep.RegionHeld3
namespace Go.Proofs.Ytcejapdjkkmkaaa
open Go.RowKit

attribute [local go_sem ↓] Go.wp_at_zero Go.wp_at_succ

theorem zero65 (w : World) : (zeroValue 65).run Try.prog w = .ok (.agg #[.int .i64 0, .slice none 0 0]) w := by kernel_rfl

variable {w : World} {bb mb kcap : Nat} {ka : Option Addr} {most : Int} {L : List Rec}

/-- the buffer is L' after a call -/
def PutOut (w : World) (bb mb : Nat) (ka : Option Addr) (most : Int) (L' : List Rec) (v : Value) (e : Ending) (w' : World) : Prop :=
  e = .returned v ∧ ∃ ka' kcap', BufS w' bb mb ka' kcap' most L' ∧ Keeps (wown bb mb ka) w w' ∧ (blk ka' = blk ka ∨ ∃ g, blk ka' = some g ∧ w.heap.size ≤ g)

theorem note_in_end {w1 w3 : World} (h : BufS w bb mb ka kcap most L) {r : Rec} (hr : DataB w r) (hrl : r.data.length ≤ 140737488351232) {x : Rec} (hx : bget r.key L = some x) (hk1 : Keeps Nil w w1)
    (hm : MapAt w3 mb (mset r.key (itemV r) (bents L))) (hk : Keeps (· = mb) w1 w3) : PutOut w bb mb ka most (bset r L) (.int .i64 0) (.returned (.int .i64 0)) w3 := by
  have hk3 : Keeps (· = mb) w w3 := (hk1.mono (T := (· = mb)) (fun _ h => h.elim)).trans hk
  have hin : r.key ∈ bkeys L := by
    apply Classical.byContradiction
    intro hc
    rw [bget_none.2 hc] at hx; cases hx
  have hke := bkeys_set_in hin
  have hl : (bset r L).length = L.length := by rw [← bkeys_length, hke, bkeys_length]
  refine ⟨rfl, ka, kcap, ⟨by rw [hl]; exact hk3.heap h.blk (fun e => h.mne e.symm), ?_, by rw [← mset_bents]; exact hm, ?_, ?_, by rw [hke]; exact h.nodup⟩, hk3.mono (fun j hj => .inr (.inl hj)), .inl rfl⟩
  · rw [hke]
    exact RowAt.keeps h.row hk3 (fun g hg e => h.row.nem h.map hg e)
  · intro y hy
    rcases mem_bset hy with rfl | hy
    · exact hr.keeps hk3 (fun g hg e => hr.nem h.map hg e)
    · exact (h.data y hy).keeps hk3 (fun g hg e => (h.data y hy).nem h.map hg e)
  · intro y hy
    rcases mem_bset hy with rfl | hy
    · exact hrl
    · exact h.dlen y hy

set_option maxHeartbeats 2000000 in
set_option maxRecDepth 100000 in
theorem note_in (h : BufS w bb mb ka kcap most L) (r : Rec) (hr : DataB w r) (hrl : r.data.length ≤ 140737488351232) {x : Rec} (hx : bget r.key L = some x) :
    Calls Try.prog 20 #[.pointer (some ⟨bb, 0, none⟩), .int .i64 r.key, .agg #[.int .i64 r.st, .slice r.a r.data.length r.cap]] w (PutOut w bb mb ka most (bset r L) (.int .i64 0)) := by
  have c0 := cell_of_heap h.blk 0
  have c1 := cell_of_heap h.blk 1
  have c2 := cell_of_heap h.blk 2
  simp at c0 c1 c2
  have f0 := frozen_of_heap h.blk
  have hbl := lt_of_heap h.blk
  have hml := h.map.lt
  have hg := Lib.hid (show mget r.key (bents L) = some (.agg #[.int .i64 x.st, .slice x.a x.data.length x.cap]) by rw [mget_bents, hx]; rfl)
  have hmX := Lib.hid (show ∀ W, Keeps Nil w W → MapAt W mb (bents L) from fun W hW => h.map.keeps hW (fun h => h))
  have hm := Lib.hid h.map
  have h' := Lib.hid h
  have n1 := Lib.hid (show ¬ bb = mb from fun e => h.mne e.symm)
  have n2 := Lib.hid (show ¬ w.heap.size = mb from fun e => by omega)
  have hx' := Lib.hid hx
  have hr' := Lib.hid hr
  clear h hx hr
  go_enter Try.func20, Try.ntmps20
  go_wp2_with (at_lookup; refine wpList_look_in _ rfl _ _ 59 rfl 3 65 Try.underlying59 Try.underlying3 zero65 mb _ rfl (by exact hmX.out _ ((Keeps.refl Nil w).alloc _)) r.key rfl _ hg.out ?_)
  obtain ⟨w3, hu, hm3, hk3, hz3⟩ := run_upd (P := Try.prog) (w := ((w.alloc (.cells #[.int .i64 r.st, .slice r.a r.data.length r.cap] 65)).alloc (.cells #[.int .i64 x.st, .slice x.a x.data.length x.cap] 65)).drew) Try.underlying59 Try.underlying3 (hmX.out _ (((Keeps.refl Nil w).alloc _).alloc _).drew) r.key (.agg #[.int .i64 r.st, .slice r.a r.data.length r.cap])
  have hk3' := Lib.hid hk3
  clear hk3
  go_region_held3 (fun W => W.cell? ⟨bb, 2, none⟩ = some (.map (some mb)) ∧ W.cell? ⟨w.heap.size, 0, none⟩ = some (.int .i64 r.st) ∧ W.cell? ⟨w.heap.size, 1, none⟩ = some (.slice r.a r.data.length r.cap)) ((go_split_ands; refine ⟨?_, ?_, ?_⟩ <;> (first | (go_keep; done) | (refine hk3'.out.cell ?_ n1.out; assumption) | (refine hk3'.out.cell ?_ n2.out; assumption)))) (fail)
  clear hu
  go_wp2_with fail
  go_ret
  exact note_in_end h'.out hr'.out hrl hx'.out (((Keeps.refl Nil w).alloc _).alloc _).drew hm3 hk3'.out

set_option maxHeartbeats 2000000 in
set_option maxRecDepth 100000 in
theorem note_full (h : BufS w bb mb ka kcap most L) (r : Rec) (hx : bget r.key L = none) (hf : (L.length : Int) = most) :
    Calls Try.prog 20 #[.pointer (some ⟨bb, 0, none⟩), .int .i64 r.key, .agg #[.int .i64 r.st, .slice r.a r.data.length r.cap]] w fun e w' => e = .returned (.int .i64 90) ∧ Keeps Nil w w' := by
  have c0 := cell_of_heap h.blk 0
  have c1 := cell_of_heap h.blk 1
  have c2 := cell_of_heap h.blk 2
  simp at c0 c1 c2
  have f0 := frozen_of_heap h.blk
  have hbl := lt_of_heap h.blk
  have hg := Lib.hid (show mget r.key (bents L) = none by rw [mget_bents, hx]; rfl)
  have hmX := Lib.hid (show ∀ W, Keeps Nil w W → MapAt W mb (bents L) from fun W hW => h.map.keeps hW (fun h => h))
  have e1 : ((L.length : Int) == most) = true := by simpa using hf
  clear h hx hf
  go_enter Try.func20, Try.ntmps20
  go_wp2_with (at_lookup; refine wpList_look_out _ rfl _ _ 59 rfl 3 65 Try.underlying59 Try.underlying3 zero65 mb _ rfl (by exact hmX.out _ ((Keeps.refl Nil w).alloc _)) r.key rfl hg.out ?_)
  go_quiet (fail)
  go_wp2_with fail
  go_ret
  exact ⟨rfl, (((Keeps.refl Nil w).alloc _).alloc _).drewN _⟩

theorem cell_new_at {w : World} {v : Value} {t : TypeId} {n : Nat} (h : w.heap.size = n) : (w.alloc (.cells #[v] t)).cell? ⟨n, 0, none⟩ = some v := by
  subst h; exact cell_new1 w v t

theorem note_new_end {w5 w6 : World} {a5 : Option Addr} {cap5 : Nat} (h : BufS w bb mb ka kcap most L) {r : Rec} (hr : DataB w r) (hrl : r.data.length ≤ 140737488351232) (hx : bget r.key L = none) (k5 : Keeps (fun k => blk ka = some k) w w5)
    (hr5 : RowAt w5 3 1 a5 (L.length + 1) cap5 ((bkeys L).map (Value.int .i64) ++ [.int .i64 r.key])) (hb5 : blk a5 = blk ka ∨ ∃ g, blk a5 = some g ∧ w.heap.size ≤ g)
    (hm : MapAt w6 mb (mset r.key (itemV r) (bents L))) (hk6 : Keeps (· = mb) (w5.setCell ⟨bb, 1, none⟩ (.slice a5 (L.length + 1) cap5)) w6) : PutOut w bb mb ka most (bset r L) (.int .i64 0) (.returned (.int .i64 0)) w6 := by
  have hout := bget_none.1 hx
  have hset := bset_new hout
  have hl : (bset r L).length = L.length + 1 := by rw [hset]; simp
  have hkeys : bkeys (bset r L) = bkeys L ++ [r.key] := by rw [hset]; simp [bkeys]
  have n3 : ¬ blk ka = some bb := fun e => h.row.ne h.blk (by decide) e rfl
  have n4 : ¬ blk ka = some mb := fun e => h.row.nem h.map e rfl
  have hbb : (w5.setCell ⟨bb, 1, none⟩ (.slice a5 (L.length + 1) cap5)).heap[bb]? = some (.cells #[.int .i64 most, .slice a5 (L.length + 1) cap5, .map (some mb)] 61) := by
    rw [heap_setCell_same (k5.heap h.blk n3)]; rfl
  have kA : Keeps (wown bb mb ka) w (w5.setCell ⟨bb, 1, none⟩ (.slice a5 (L.length + 1) cap5)) := (k5.mono (fun j hj => .inr (.inr hj))).setCell (.inl (.inl rfl)) _
  have kB : Keeps (wown bb mb ka) w w6 := kA.trans (hk6.mono (fun j hj => .inr (.inl hj)))
  have ha5 : ∀ g, blk a5 = some g → g ≠ bb ∧ g ≠ mb := by
    intro g hg
    rcases hb5 with e | ⟨g', e, hge⟩
    · rw [e] at hg
      exact ⟨h.row.ne h.blk (by decide) hg, h.row.nem h.map hg⟩
    · rw [e] at hg; cases hg
      have := lt_of_heap h.blk
      have := h.map.lt
      exact ⟨by omega, by omega⟩
  refine ⟨rfl, a5, cap5, ⟨by rw [hl]; exact hk6.heap hbb (fun e => h.mne e.symm), ?_, by rw [← mset_bents]; exact hm, ?_, ?_, ?_⟩, kB, hb5⟩
  · have h2 : RowAt (w5.setCell ⟨bb, 1, none⟩ (.slice a5 (L.length + 1) cap5)) 3 1 a5 (L.length + 1) cap5 ((bkeys L).map (Value.int .i64) ++ [.int .i64 r.key]) := hr5.keeps ((Keeps.refl (· = bb) w5).setCell (.inl rfl) _) (fun g hg => (ha5 g hg).1)
    have h3 := h2.keeps hk6 (fun g hg => (ha5 g hg).2)
    unfold KeyRow
    rw [hkeys]
    simpa [bkeys_length] using h3
  · intro y hy
    rcases mem_bset hy with rfl | hy
    · refine hr.keeps kB (fun g hg => ?_)
      rintro (e | e | e)
      · exact hr.ne h.blk (by decide) hg e
      · exact hr.nem h.map hg e
      · exact h.row.ned hr e hg rfl
    · exact (h.data y hy).keeps kB (fun g hg => h.dne hy hg)
  · intro y hy
    rcases mem_bset hy with rfl | hy
    · exact hrl
    · exact h.dlen y hy
  · rw [hkeys]
    exact List.nodup_append.2 ⟨h.nodup, by simp, fun a ha b hb => by simp at hb; rintro rfl; exact hout (hb ▸ ha)⟩

theorem row_long {k : Nat} {ks : List Int} (h : KeyRow w ka k ks) : ks.length ≤ k := by
  rcases h.form with ⟨_, h2, h3⟩ | ⟨_, _, _, h2, _⟩ <;> omega

set_option maxHeartbeats 2000000 in
set_option maxRecDepth 100000 in
theorem note_new (h : BufS w bb mb ka kcap most L) (r : Rec) (hr : DataB w r) (hrl : r.data.length ≤ 140737488351232) (hx : bget r.key L = none) (hf : (L.length : Int) < most) (hl : L.length ≤ 1000000) :
    Calls Try.prog 20 #[.pointer (some ⟨bb, 0, none⟩), .int .i64 r.key, .agg #[.int .i64 r.st, .slice r.a r.data.length r.cap]] w (PutOut w bb mb ka most (bset r L) (.int .i64 0)) := by
  obtain ⟨i3, hi3, hz0, hz1, hz2⟩ := info_parts info3
  have c0 := cell_of_heap h.blk 0
  have c1 := cell_of_heap h.blk 1
  have c2 := cell_of_heap h.blk 2
  simp at c0 c1 c2
  have f0 := frozen_of_heap h.blk
  have hbl := lt_of_heap h.blk
  have hml := h.map.lt
  have hg := Lib.hid (show mget r.key (bents L) = none by rw [mget_bents, hx]; rfl)
  have hmX := Lib.hid (show ∀ W, Keeps Nil w W → MapAt W mb (bents L) from fun W hW => h.map.keeps hW (fun h => h))
  have hrow := Lib.hid (show ∀ W, Keeps Nil w W → RowAt W 3 1 ka L.length kcap ((bkeys L).map (Value.int .i64)) from fun W hW => by have := RowAt.keeps h.row hW (fun _ _ h => h); rwa [bkeys_length] at this)
  have hbk : ∀ g, blk ka = some g → g < w.heap.size := fun g hg => RowAt.lt h.row hg
  have n3 := Lib.hid (show ¬ blk ka = some bb from fun e => h.row.ne h.blk (by decide) e rfl)
  have n4 := Lib.hid (show ¬ blk ka = some mb from fun e => h.row.nem h.map e rfl)
  have n5 := Lib.hid (show ¬ blk ka = some w.heap.size from fun e => by have := hbk _ e; omega)
  have hb1 := Lib.hid (show L.length + 1 ≤ maxLen by unfold maxLen; omega)
  have hb2 := Lib.hid (show (L.length + 1) * 8 ≤ 140737488355328 by omega)
  have e1 : ((L.length : Int) == most) = false := by simp; omega
  have n1 := Lib.hid (show ¬ bb = mb from fun e => h.mne e.symm)
  have n2 := Lib.hid (show ¬ w.heap.size = mb from fun e => by omega)
  have hx' := Lib.hid hx
  have hr' := Lib.hid hr
  have h' := Lib.hid h
  clear h hx hr hf hbk
  go_enter Try.func20, Try.ntmps20
  go_wp2_with (at_lookup; refine wpList_look_out _ rfl _ _ 59 rfl 3 65 Try.underlying59 Try.underlying3 zero65 mb _ rfl (by exact hmX.out _ ((Keeps.refl Nil w).alloc _)) r.key rfl hg.out ?_)
  go_quiet (fail)
  go_wp2_with (at_builtin; go_loud (refine wpList_app _ rfl _ _ 22 rfl 3 i3 (.int .i64 0) 1 8 Try.underlying22 hi3 hz0 hz1 hz2 rfl (by decide) ka L.length kcap _ rfl _ 1 1 [.int .i64 r.key] rfl ?_ (hrow.out _ ((((Keeps.refl Nil w).alloc _).alloc _).drewN _ |>.alloc _)) (src_one (cell_new_at (by simp [go_sem]))) (fun h => by cases h) (by simp [Value.oneCell']) hb1.out hb2.out; intro a5 cap5 w5 hr5 hk5 hb5; have k5 := ((((Keeps.refl (fun k => blk ka = some k) w).alloc (.cells #[.int .i64 r.st, .slice r.a r.data.length r.cap] 65)).alloc (.cells #[.int .i64 0, .slice none 0 0] 65)).drewN nq |>.alloc (.cells #[.int .i64 r.key] 3)).trans hk5; have c1' := k5.cell c1 n3.out; have c2' := k5.cell c2 n3.out; have f1' := k5.frozen (f0 1) hbl n3.out; have x0 := hk5.cell (b := w.heap.size) (o := 0) (v := .int .i64 r.st) (by simp [go_sem]) n5.out; have x1 := hk5.cell (b := w.heap.size) (o := 1) (v := .slice r.a r.data.length r.cap) (by simp [go_sem]) n5.out; have k5' := Lib.hid k5; have hr5' := Lib.hid hr5; have hb5' := Lib.hid hb5; clear hr5 hb5 hk5 k5 c0 c1 c2 f0))
  have hmA : MapAt (w5.setCell ⟨bb, 1, none⟩ (.slice a5 (L.length + 1) cap5)).drew mb (bents L) := h'.out.map.keeps (((k5'.out.mono (T := fun j => blk ka = some j ∨ j = bb) (fun _ h => .inl h)).setCell (.inl (.inr rfl)) _).drew) (fun e => e.elim n4.out (fun e => n1.out e.symm))
  obtain ⟨w6, hu, hm6, hk6, hz6⟩ := run_upd (P := Try.prog) Try.underlying59 Try.underlying3 hmA r.key (.agg #[.int .i64 r.st, .slice r.a r.data.length r.cap])
  have hk6' := Lib.hid hk6
  clear hmA hk6
  have hBB := heap_setCell_same (k5'.out.heap h'.out.blk n3.out) 1 (.slice a5 (L.length + 1) cap5)
  have n6 : ¬ w.heap.size = bb := by omega
  have t1 : (w5.setCell ⟨bb, 1, none⟩ (.slice a5 (L.length + 1) cap5)).drew.cell? ⟨bb, 2, none⟩ = some (.map (some mb)) := cell_of_heap hBB 2
  have t2 : (w5.setCell ⟨bb, 1, none⟩ (.slice a5 (L.length + 1) cap5)).drew.cell? ⟨w.heap.size, 0, none⟩ = some (.int .i64 r.st) := ((Keeps.refl (· = bb) w5).setCell (.inl rfl) _).cell x0 n6
  have t3 : (w5.setCell ⟨bb, 1, none⟩ (.slice a5 (L.length + 1) cap5)).drew.cell? ⟨w.heap.size, 1, none⟩ = some (.slice r.a r.data.length r.cap) := ((Keeps.refl (· = bb) w5).setCell (.inl rfl) _).cell x1 n6
  clear hBB n6
  go_region_held3 (fun W => W.cell? ⟨bb, 2, none⟩ = some (.map (some mb)) ∧ W.cell? ⟨w.heap.size, 0, none⟩ = some (.int .i64 r.st) ∧ W.cell? ⟨w.heap.size, 1, none⟩ = some (.slice r.a r.data.length r.cap)) (first | exact ⟨t1, t2, t3⟩ | (go_keep; done) | (go_split_ands; refine ⟨?_, ?_, ?_⟩ <;> (first | (go_keep; done) | (refine hk6'.out.cell ?_ n1.out; assumption) | (refine hk6'.out.cell ?_ n2.out; assumption)))) (fail)
  clear hu
  go_wp2_with fail
  go_ret
  exact note_new_end h'.out hr'.out hrl hx'.out k5'.out hr5'.out (hb5'.out.elim .inl (fun e => .inr ⟨_, e.1, by simp [go_sem]; omega⟩)) hm6 ((Keeps.refl (· = mb) _).drew.trans hk6'.out)
end Go.Proofs.Ytcejapdjkkmkaaa
