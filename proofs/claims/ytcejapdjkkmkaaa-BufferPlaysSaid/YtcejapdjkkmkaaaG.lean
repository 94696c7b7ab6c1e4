/- Get, Take, Keys -/
import Derived.Test.YtcejapdjkkmkaaaF
namespace Go.Proofs.Ytcejapdjkkmkaaa
open Go.RowKit

attribute [local go_sem ↓] Go.wp_at_zero Go.wp_at_succ

theorem clone_any (a : Option Addr) (cap : Nat) (xs : List Int) (w : World) (hx : Src w a 1 xs.length (xs.map (Value.int .i64))) (hn : a = none → cap = 0 ∧ xs.length = 0) (hm : xs.length * 8 ≤ 140737488351232) :
    Calls Try.prog 24 #[.slice a xs.length cap] w fun e w' => ∃ a' cap', e = .returned (.slice a' xs.length cap') ∧ KeyRow w' a' cap' xs ∧ Keeps Nil w w' ∧ (∀ g, blk a' = some g → w.heap.size ≤ g) := by
  obtain ⟨i0, hi, hz0, hz1, hz2⟩ := info_parts info3
  have hnil := fun (w : World) a n c => Lib.run_eql_slice_nil (P := Try.prog) w 22 3 a n c 0 0 Try.underlying22
  have hs' := Lib.hid hx
  have hn' := Lib.hid hn
  clear hx hn
  cases a with
  | none =>
    obtain ⟨hc, hl⟩ := hn'.out rfl
    have hx0 : xs = [] := List.eq_nil_of_length_eq_zero hl
    subst hx0
    subst hc
    go_enter Try.func24, Try.ntmps24
    go_wp2
    go_ret
    exact ⟨none, 0, rfl, RowAt.nil _ _ _, Keeps.refl _ _, fun g h => by cases h⟩
  | some ad =>
    go_enter Try.func24, Try.ntmps24
    go_wp2_with (at_builtin; refine wpList_app _ rfl _ _ 22 rfl 3 i0 (.int .i64 0) 1 8 Try.underlying22 hi hz0 hz1 hz2 rfl (by decide) _ 0 0 [] rfl _ xs.length _ (xs.map (.int .i64)) rfl ?_ ?c1 ?c2 ?c3 ?c4 ?c5 ?c6; intro a' cap' w1 hr hk hb)
    case c1 => exact ⟨rfl, .inr ⟨w.heap.size, 0, #[], rfl, Nat.zero_le _, heap_alloc_new _ _, Nat.le_refl _, Nat.zero_le _, rfl, rfl⟩⟩
    case c2 => exact (hs'.out.keeps ((Keeps.refl Nil _).alloc _))
    case c3 => simp
    case c4 => simp [Value.oneCell']
    case c5 => simp [maxLen]; omega
    case c6 => simp; omega
    go_ret
    refine ⟨a', cap', by simp, by unfold KeyRow; simpa using hr, ?_, ?_⟩
    · exact ((Keeps.refl Nil w).alloc _).trans' hk (fun j hj => by simp [blk] at hj; omega)
    · intro g hg
      rcases hb with hb | ⟨hb, _⟩
      · rw [hb] at hg; simp [blk] at hg; omega
      · rw [hb] at hg; simp at hg; omega

variable {w : World} {bb mb kcap : Nat} {ka : Option Addr} {most : Int} {L : List Rec}

set_option maxHeartbeats 1000000 in
theorem keys_any (h : BufS w bb mb ka kcap most L) (hl : L.length ≤ 1000000) :
    Calls Try.prog 19 #[.pointer (some ⟨bb, 0, none⟩)] w fun e w' => ∃ a' cap', e = .returned (.slice a' L.length cap') ∧ KeyRow w' a' cap' (bkeys L) ∧ Keeps Nil w w' ∧ (∀ g, blk a' = some g → w.heap.size ≤ g) := by
  have c1 := cell_of_heap h.blk 1
  simp at c1
  have hC := Lib.hid (by
    have := clone_any ka kcap (bkeys L) w h.row.src (fun e => by
      rcases h.row.form with ⟨_, h2, h3⟩ | ⟨g, cur, ha, _⟩
      · exact ⟨h3, h2⟩
      · rw [e] at ha; cases ha) (by rw [bkeys_length]; omega)
    rw [bkeys_length] at this; exact this)
  clear h
  go_enter Try.func19, Try.ntmps19
  go_wp2_with fail
  refine (hC.out).mono ?_
  rintro e w1 ⟨a', cap', rfl, hr1, hk1, hg1⟩
  have hr1' := Lib.hid hr1
  have hk1' := Lib.hid hk1
  have hg1' := Lib.hid hg1
  clear hr1 hk1 hg1 c1
  go_wp2_with fail
  go_ret
  exact ⟨a', cap', rfl, hr1'.out, hk1'.out, hg1'.out⟩

/-- what Get answers -/
def GetOut (w : World) (st : Int) (d : List Int) (e : Ending) (w' : World) : Prop := ∃ g, e = .returned (.tuple #[.int .i64 st, .slice (some ⟨g, 0, none⟩) d.length d.length]) ∧ w'.heap[g]? = some (.cells (dcells d).toArray 5) ∧ w.heap.size ≤ g ∧ Keeps Nil w w'

set_option maxHeartbeats 2000000 in
set_option maxRecDepth 100000 in
theorem get_gen (h : BufS w bb mb ka kcap most L) {k st : Int} {a : Option Addr} {cap : Nat} {d : List Int} (hx : (mget k (bents L)).getD (.agg #[.int .i64 0, .slice none 0 0]) = .agg #[.int .i64 st, .slice a d.length cap]) (hd : ∀ W, Keeps Nil w W → DataAt W a d) (hdl : d.length ≤ 140737488351232) :
    Calls Try.prog 15 #[.pointer (some ⟨bb, 0, none⟩), .int .i64 k] w (GetOut w st d) := by
  have c2 := cell_of_heap h.blk 2
  simp at c2
  have hbl := lt_of_heap h.blk
  have hg := Lib.hid hx
  have hm := Lib.hid h.map
  have hC := Lib.hid (show ∀ W, Keeps Nil w W → Calls Try.prog 21 #[.slice a d.length cap] W (OwnOut W d) from fun W hW => own_any (hd W hW) hdl)
  clear h hx hd
  go_enter Try.func15, Try.ntmps15
  go_wp2_with (at_lookup; refine wpList_look _ rfl _ _ 59 rfl 3 65 Try.underlying59 Try.underlying3 zero65 mb _ rfl (by exact hm.out) k rfl ?_; rw [hg.out])
  go_region_held3 (fun W => W.cell? ⟨w.heap.size, 0, none⟩ = some (.int .i64 st) ∧ W.cell? ⟨w.heap.size, 1, none⟩ = some (.slice a d.length cap)) (first | (go_keep; done) | (go_split_ands; refine ⟨?_, ?_⟩ <;> (first | (go_keep; done) | (refine hk1.cell ?_ (fun h => h); assumption)))) ((go_at_call 21; refine (hC.out _ (((Keeps.refl Nil w).alloc _).drew)).mono ?_; rintro e w1 ⟨g, rfl, hg1, hge, hk1⟩))
  all_goals
    go_wp2_with fail
    go_ret2
    exact ⟨g, rfl, hg1, by have h2 := hge; simp at h2; omega, ((Keeps.refl Nil w).alloc _).drew.trans hk1⟩

theorem get_in (h : BufS w bb mb ka kcap most L) {k : Int} {x : Rec} (hx : bget k L = some x) :
    Calls Try.prog 15 #[.pointer (some ⟨bb, 0, none⟩), .int .i64 k] w (GetOut w x.st x.data) :=
  get_gen h (a := x.a) (cap := x.cap) (by rw [mget_bents, hx]; rfl) (fun W hW => ((h.data x (bget_mem hx).1).keeps hW (fun _ _ h => h)).at) (bget_len h hx)
theorem get_out (h : BufS w bb mb ka kcap most L) {k : Int} (hx : bget k L = none) :
    Calls Try.prog 15 #[.pointer (some ⟨bb, 0, none⟩), .int .i64 k] w (GetOut w 0 []) :=
  get_gen h (a := none) (cap := 0) (by rw [mget_bents, hx]; rfl) (fun W _ => DataAt.nil W none) (by simp)

/-- what Take answers, when there is one -/
def TakeOut (w : World) (bb mb : Nat) (ka : Option Addr) (most : Int) (x : Rec) (l : List Rec) (e : Ending) (w' : World) : Prop :=
  PutOut w bb mb ka most l (.tuple #[.int .i64 x.key, .int .i64 x.st, .slice x.a x.data.length x.cap, .bool true]) e w' ∧ DataB w' x

set_option maxHeartbeats 2000000 in
set_option maxRecDepth 100000 in
theorem take_in {x : Rec} {l : List Rec} (h : BufS w bb mb ka kcap most (x :: l)) (hl : l.length < 1000000) :
    Calls Try.prog 10 #[.pointer (some ⟨bb, 0, none⟩)] w (TakeOut w bb mb ka most x l) := by
  have c1 := cell_of_heap h.blk 1
  have c2 := cell_of_heap h.blk 2
  simp at c1 c2
  have hbl := lt_of_heap h.blk
  have hg := Lib.hid (show mget x.key (bents (x :: l)) = some (.agg #[.int .i64 x.st, .slice x.a x.data.length x.cap]) by rw [mget_bents]; simp [bget, itemV])
  obtain ⟨g, rfl⟩ : ∃ g, ka = some ⟨g, 0, none⟩ := by
    rcases h.row.form with ⟨_, h2, _⟩ | ⟨g, cur, ha, _⟩
    · simp [bkeys] at h2
    · exact ⟨g, ha⟩
  have k0 : w.cell? ⟨g, 0, none⟩ = some (.int .i64 x.key) := by
    obtain ⟨b, off, e, hc⟩ := h.row.ints 0 (by simp [bkeys])
    cases e
    simpa [bkeys, gi] using hc
  have hm := Lib.hid h.map
  have e1 : ((l.length : Int) + 1 == 0) = false := by simp; omega
  have hC := Lib.hid (show ∀ W, Keeps Nil w W → Calls Try.prog 18 #[.pointer (some ⟨bb, 0, none⟩), .int .i64 x.key] W (PutOut W bb mb (some ⟨g, 0, none⟩) most l (.bool true)) from fun W hW => by
    have := drop_in (h.nil hW) (k := x.key) (by simp [bkeys]) (by simp; omega)
    simpa [bdel] using this)
  have h' := Lib.hid h
  clear h
  go_enter Try.func10, Try.ntmps10
  go_wp2_with (at_lookup; refine wpList_look _ rfl _ _ 59 rfl 3 65 Try.underlying59 Try.underlying3 zero65 mb _ rfl (by exact hm.out) x.key rfl ?_; rw [hg.out]; simp only [Option.getD_some])
  refine (hC.out _ ((Keeps.refl Nil w).alloc _)).mono ?_
  rintro e w2 ⟨rfl, ka', kcap', hB, hK, hG⟩
  have hno : ¬ wown bb mb (some ⟨g, 0, none⟩) w.heap.size := by
    rintro (e | e | e)
    · omega
    · have := h'.out.map.lt; omega
    · have := RowAt.lt h'.out.row e; omega
  have x0 := hK.cell (b := w.heap.size) (o := 0) (v := .int .i64 x.st) (by simp [go_sem]) hno
  have x1 := hK.cell (b := w.heap.size) (o := 1) (v := .slice x.a x.data.length x.cap) (by simp [go_sem]) hno
  have hB' := Lib.hid hB
  have hK' := Lib.hid hK
  have hG' := Lib.hid hG
  clear hB hK hG hno c1 c2 k0 hC
  go_wp2_with fail
  go_quiet (fail)
  go_wp2_with fail
  have hkn : Keeps Nil w (w.alloc (.cells #[.int .i64 x.st, .slice x.a x.data.length x.cap] 65)) := (Keeps.refl Nil w).alloc _
  have hkw : Keeps (wown bb mb (some ⟨g, 0, none⟩)) w (w2.drewN nq) := ((hkn.mono (fun _ h => h.elim)).trans hK'.out).drewN _
  have hfin : TakeOut w bb mb (some ⟨g, 0, none⟩) most x l (.returned (.tuple #[.int .i64 x.key, .int .i64 x.st, .slice x.a x.data.length x.cap, .bool true])) (w2.drewN nq) :=
    ⟨⟨rfl, ka', kcap', hB'.out.nil ((Keeps.refl Nil _).drewN _), hkw, hG'.out.elim .inl (fun ⟨q, a, b⟩ => .inr ⟨q, a, Nat.le_trans hkn.size b⟩)⟩, (h'.out.data x (by simp)).keeps hkw (fun q hq => h'.out.dne (by simp) hq)⟩
  exact bodyPost_ret (v := .tuple #[.int .i64 x.key, .int .i64 x.st, .slice x.a x.data.length x.cap, .bool true]) (by simp [results, Try.results10, go_sem]) rfl hfin

set_option maxHeartbeats 1000000 in
theorem take_none (h : BufS w bb mb ka kcap most []) :
    Calls Try.prog 10 #[.pointer (some ⟨bb, 0, none⟩)] w fun e w' => e = .returned (.tuple #[.int .i64 0, .int .i64 0, .slice none 0 0, .bool false]) ∧ w' = w := by
  have c1 := cell_of_heap h.blk 1
  simp at c1
  clear h
  go_enter Try.func10, Try.ntmps10
  go_wp2_with fail
  exact bodyPost_ret (v := .tuple #[.int .i64 0, .int .i64 0, .slice none 0 0, .bool false]) (by simp [results, Try.results10, go_sem]) rfl ⟨rfl, rfl⟩
end Go.Proofs.Ytcejapdjkkmkaaa
