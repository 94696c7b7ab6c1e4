/- the reference's pager in memory; its calls -/
import Derived.Test.YtnickcjkipemmaaDfA
import Derived.Test.YtnickcjkipemmaaOpen
namespace Go.Proofs.Ytnickcjkipemmaa
open Go.RowKit

def ncells (l : List Int) : List Value := l.map (Value.int .u64)
theorem ncells_one (l : List Int) : ∀ u ∈ ncells l, u.oneCell' = true := by
  intro u hu
  obtain ⟨x, _, rfl⟩ := List.mem_map.1 hu
  rfl
theorem ncells_len (l : List Int) : (ncells l).length = l.length := by simp [ncells]
theorem ncells_get {l : List Int} {j : Nat} (h : j < l.length) : (ncells l).toArray[j]? = some (.int .u64 (l.getD j 0)) := by simp [ncells, h]
def pgCells (mb : Nat) (P : Pg) (wa : Option Addr) (wc : Nat) : Array Value :=
  #[.int .i64 P.per, .map (some mb), .int .i64 P.calls, .int .i64 P.every, .int .i64 P.bad, .int .i64 P.loads, .int .i64 P.stores, .bool false, .int .i64 P.last, .slice wa P.was.length wc]
/-- block g is a row of numbers -/
def NumB (w : World) (g : Nat) (l : List Int) : Prop := w.heap[g]? = some (.cells (ncells l).toArray 30 (0, 0))
structure PgB (w : World) (pb mb : Nat) (P : Pg) (f : List (Int × Value)) (wa : Option Addr) (wc : Nat) (O : Nat → Prop) : Prop where
  blk : w.heap[pb]? = some (.cells (pgCells mb P wa wc) 69 (0, 0))
  map : MapAt w mb f
  page : ∀ n v, mget n f = some v → ∃ g, v = .slice (some ⟨g, 0, none⟩) P.per P.per ∧ NumB w g (P.pages n) ∧ O g
  zero : ∀ n, mget n f = none → P.pages n = List.replicate P.per 0
  len : ∀ n, (P.pages n).length = P.per
  was : P.was = [] ∨ ∃ g, wa = some ⟨g, 0, none⟩ ∧ NumB w g P.was ∧ O g
  wlen : P.was.length ≤ 1024
  opb : O pb
  omb : O mb
  lt : ∀ k, O k → k < w.heap.size
  per : 1 ≤ P.per ∧ P.per ≤ 1024
def PgAt (w : World) (pb : Nat) (P : Pg) (O : Nat → Prop) : Prop := ∃ mb f wa wc, PgB w pb mb P f wa wc O
structure Pg.Lt (P : Pg) (b : Nat) : Prop where
  calls : P.calls ≤ b
  loads : P.loads ≤ b
  stores : P.stores ≤ b
theorem Pg.Lt.tick {P : Pg} {b : Nat} (h : P.Lt b) : P.tick.Lt (b + 1) := ⟨Nat.succ_le_succ h.calls, Nat.le_succ_of_le h.loads, Nat.le_succ_of_le h.stores⟩
theorem Pg.Lt.loaded {P : Pg} {b : Nat} (h : P.Lt b) : P.loaded.Lt (b + 1) := ⟨Nat.succ_le_succ h.calls, Nat.succ_le_succ h.loads, Nat.le_succ_of_le h.stores⟩
theorem Pg.Lt.storeBad {P : Pg} {b : Nat} (h : P.Lt b) : P.storeBad.Lt (b + 1) := ⟨Nat.succ_le_succ h.calls, Nat.le_succ_of_le h.loads, Nat.succ_le_succ h.stores⟩
theorem Pg.Lt.stored {P : Pg} {b : Nat} (h : P.Lt b) (n : Int) (l : List Int) : (P.stored n l).Lt (b + 1) := ⟨Nat.succ_le_succ h.calls, Nat.le_succ_of_le h.loads, Nat.succ_le_succ h.stores⟩
theorem Pg.Lt.mono {P : Pg} {b c : Nat} (h : P.Lt b) (hc : b ≤ c) : P.Lt c := ⟨Nat.le_trans h.calls hc, Nat.le_trans h.loads hc, Nat.le_trans h.stores hc⟩

theorem NumB.keeps {T : Nat → Prop} {w w' : World} {g : Nat} {l : List Int} (h : NumB w g l) (hk : Keeps T w w') (hn : ¬ T g) : NumB w' g l := hk.heap h hn
theorem NumB.ne {w : World} {g pb : Nat} {l : List Int} {c : Array Value} {t : TypeId} (h : NumB w g l) (hp : w.heap[pb]? = some (.cells c t (0, 0))) (ht : t ≠ 30) : g ≠ pb := by
  rintro rfl
  unfold NumB at h
  rw [h] at hp
  cases hp
  exact ht rfl
theorem NumB.src {w : World} {g n : Nat} {l : List Int} (h : NumB w g l) (hn : l.length = n) : Src w (some ⟨g, 0, none⟩) 1 n (ncells l) := by
  subst hn
  refine ⟨by rw [ncells_len, Nat.mul_one], (fun h => by cases h), fun ad ha j u hu => ?_⟩
  cases ha
  rw [Addr.add_lit, Nat.zero_add, cell_of_heap h]
  simpa using hu
theorem Src.block_keeps {T : Nat → Prop} {w w' : World} {g size m : Nat} {l : List Value} (h : Src w (some ⟨g, 0, none⟩) size m l) (hk : Keeps T w w') (hn : ¬ T g) : Src w' (some ⟨g, 0, none⟩) size m l := by
  refine ⟨h.1, h.2.1, fun ad ha j u hu => ?_⟩
  have hc := h.2.2 ad ha j u hu
  cases ha
  rw [Addr.add_lit] at hc ⊢
  exact hk.cell hc hn
theorem heap_alloc_set (w : World) (a : Addr) (v : Value) (o : Obj) : ((w.setCell a v).alloc o).heap[w.heap.size]? = some o := by
  have := heap_alloc_new (w.setCell a v) o
  rwa [show (w.setCell a v).heap.size = w.heap.size by simp [World.setCell]] at this
variable {w w' : World} {pb mb : Nat} {P : Pg} {f : List (Int × Value)} {wa : Option Addr} {wc : Nat} {O T : Nat → Prop}
theorem PgB.keeps (h : PgB w pb mb P f wa wc O) (hk : Keeps T w w') (hn : ∀ k, O k → ¬ T k) : PgB w' pb mb P f wa wc O := by
  refine ⟨hk.heap h.blk (hn _ h.opb), h.map.keeps hk (hn _ h.omb), fun n v hv => ?_, h.zero, h.len, ?_, h.wlen, h.opb, h.omb, fun k hkk => Nat.lt_of_lt_of_le (h.lt k hkk) hk.size, h.per⟩
  · obtain ⟨g, h1, h2, h3⟩ := h.page n v hv
    exact ⟨g, h1, h2.keeps hk (hn g h3), h3⟩
  · rcases h.was with h1 | ⟨g, h1, h2, h3⟩
    · exact .inl h1
    · exact .inr ⟨g, h1, h2.keeps hk (hn g h3), h3⟩
theorem PgAt.keeps (h : PgAt w pb P O) (hk : Keeps T w w') (hn : ∀ k, O k → ¬ T k) : PgAt w' pb P O := by
  obtain ⟨mb, f, wa, wc, h⟩ := h
  exact ⟨mb, f, wa, wc, h.keeps hk hn⟩
theorem PgAt.lt (h : PgAt w pb P O) : ∀ k, O k → k < w.heap.size := by obtain ⟨_, _, _, _, h⟩ := h; exact h.lt
/-- a number of the pager's own turns -/
theorem PgB.edit {P' : Pg} (h : PgB w pb mb P f wa wc O) (hk : Keeps (· = pb) w w') (hb : w'.heap[pb]? = some (.cells (pgCells mb P' wa wc) 69 (0, 0))) (h1 : P'.per = P.per) (h2 : P'.pages = P.pages) (h3 : P'.was = P.was) : PgB w' pb mb P' f wa wc O := by
  have hm : mb ≠ pb := h.map.ne h.blk
  refine ⟨hb, h.map.keeps hk hm, fun n v hv => ?_, by rw [h1, h2]; exact h.zero, by rw [h1, h2]; exact h.len, ?_, by rw [h3]; exact h.wlen, h.opb, h.omb, fun k hkk => Nat.lt_of_lt_of_le (h.lt k hkk) hk.size, by rw [h1]; exact h.per⟩
  · obtain ⟨g, a1, a2, a3⟩ := h.page n v hv
    exact ⟨g, by rw [h1]; exact a1, by rw [h2]; exact a2.keeps hk (a2.ne h.blk (by decide)), a3⟩
  · rcases h.was with a1 | ⟨g, a1, a2, a3⟩
    · exact .inl (by rw [h3]; exact a1)
    · exact .inr ⟨g, a1, by rw [h3]; exact a2.keeps hk (a2.ne h.blk (by decide)), a3⟩
theorem PgB.set2 (h : PgB w pb mb P f wa wc O) : PgB (w.setCell ⟨pb, 2, none⟩ (.int .i64 ((P.calls : Int) + 1))) pb mb P.tick f wa wc O :=
  h.edit ((Keeps.refl (· = pb) w).setCell (.inl rfl) _) (by rw [heap_setCell_same h.blk]; simp [pgCells, Pg.tick]) rfl rfl rfl

def FailsOut (b : Bool) (w : World) (pb mb : Nat) (P : Pg) (f : List (Int × Value)) (wa : Option Addr) (wc : Nat) (O : Nat → Prop) (e : Ending) (w' : World) : Prop :=
  e = .returned (.bool b) ∧ PgB w' pb mb P.tick f wa wc O ∧ Keeps (· = pb) w w'
set_option maxHeartbeats 1000000 in
theorem fails_any (h : PgB w pb mb P f wa wc O) (hc : P.calls ≤ 1000000000) : Calls Try.prog 97 #[.pointer (some ⟨pb, 0, none⟩)] w (FailsOut P.fails w pb mb P f wa wc O) := by
  have c2 := cell_of_heap h.blk 2
  have f0 := frozen_of_heap h.blk
  have hs := h.set2
  have hs' := Lib.hid hs
  have c3 := cell_of_heap hs.blk 3
  have c4 := cell_of_heap hs.blk 4
  have c2' := cell_of_heap hs.blk 2
  simp [pgCells, Pg.tick] at c2 c3 c4 c2'
  have hk := Lib.hid ((Keeps.refl (· = pb) w).setCell (p := ⟨pb, 2, none⟩) (.inl rfl) (.int .i64 ((P.calls : Int) + 1)))
  clear hs h
  by_cases h0 : 0 < P.every
  · have d0 : decide (0 < P.every) = true := decide_eq_true h0
    have hf : P.fails = ((((P.calls : Int) + 1) % P.every) == P.bad) := by
      unfold Pg.fails; rw [d0]; simp
    have hf' := Lib.hid hf
    clear hf
    go_enter Try.func97, Try.ntmps97
    have hne : ¬ P.every = 0 := by omega
    go_wp2_with fail
    go_quiet (fail)
    go_wp2_with fail
    go_ret
    exact ⟨by rw [hf'.out]; rfl, hs'.out.keeps ((Keeps.refl Nil _).drewN _) (fun _ _ h => h), hk.out.drewN _⟩
  · have d0 : decide (0 < P.every) = false := decide_eq_false h0
    have hf : P.fails = false := by
      unfold Pg.fails; rw [d0]; rfl
    have hf' := Lib.hid hf
    clear hf
    go_enter Try.func97, Try.ntmps97
    go_wp2_with fail
    go_quiet (fail)
    go_wp2_with fail
    go_ret
    exact ⟨by rw [hf'.out]; rfl, hs'.out.keeps ((Keeps.refl Nil _).drewN _) (fun _ _ h => h), hk.out.drewN _⟩


/-! ### a page's numbers, in new memory -/
theorem Try.info30n : (Try.prog.info? 30).map (fun i => (i.zero, i.size, i.bytes)) = some (some (.int .u64 0), 1, 8) := by kernel_rfl
theorem size30 : (Try.prog.info? 30).map (·.size) = some 1 := by kernel_rfl
theorem zero67 (W : World) : (zeroValue 67).run Try.prog W = .ok (.slice none 0 0) W := by kernel_rfl
def PageOut (w : World) (k : Nat) (l : List Int) (e : Ending) (w' : World) : Prop := ∃ g, e = .returned (.slice (some ⟨g, 0, none⟩) k k) ∧ NumB w' g l ∧ w.heap.size ≤ g ∧ Keeps Nil w w'
set_option maxHeartbeats 1000000 in
theorem page_any (h : PgB w pb mb P f wa wc O) (n : Int) : Calls Try.prog 49 #[.pointer (some ⟨pb, 0, none⟩), .int .i64 n] w (PageOut w P.per (P.pages n)) := by
  obtain ⟨i30, hi, hz0, hz1, hz2⟩ := info_parts Try.info30n
  have hper := h.per
  have hmk := Lib.hid (fun W => run_make1 (P := Try.prog) W 67 30 i30 (.int .u64 0) 8 Try.underlying67 hi hz0 hz1 hz2 rfl .i64 .i64 P.per (by omega) (by omega))
  have c0 := cell_of_heap h.blk 0
  have c1 := cell_of_heap h.blk 1
  simp [pgCells] at c0 c1
  have hlen := h.len n
  have hmX := Lib.hid (show ∀ W, Keeps Nil w W → MapAt W mb f from fun W hW => h.map.keeps hW (fun h => h))
  have hpX := Lib.hid (h.page n)
  have hnX := Lib.hid (h.zero n)
  have hpb := lt_of_heap h.blk
  clear h
  have hm0 := hmk.out w
  cases hg : mget n f with
  | none =>
    have hn := hnX.out hg
    have hg' := Lib.hid hg
    clear hg
    go_enter Try.func49, Try.ntmps49
    go_wp2_with (at_lookup; refine wpList_look_out _ rfl _ _ 66 rfl 3 67 Try.underlying66 Try.underlying3 zero67 mb _ rfl (by exact hmX.out _ ((Keeps.refl Nil w).alloc _)) n rfl hg'.out ?_)
    go_ret
    refine ⟨w.heap.size, rfl, ?_, Nat.le_refl _, (Keeps.refl Nil w).alloc _⟩
    unfold NumB
    rw [hn, show ncells (List.replicate P.per 0) = List.replicate P.per (Value.int .u64 0) by simp [ncells]]
    exact heap_alloc_new w _
  | some v =>
    obtain ⟨g, rfl, hN, _⟩ := hpX.out v hg
    have hg' := Lib.hid hg
    have hN' := Lib.hid (hN.src hlen)
    clear hg hN
    go_enter Try.func49, Try.ntmps49
    go_wp2_with (first | (at_lookup; refine wpList_look_in _ rfl _ _ 66 rfl 3 67 Try.underlying66 Try.underlying3 zero67 mb _ rfl (by exact hmX.out _ ((Keeps.refl Nil w).alloc _)) n rfl _ hg'.out ?_) | (refine wpList_cpy _ rfl _ _ 67 67 rfl 30 Try.underlying67 size30 w.heap.size 0 P.per P.per (some ⟨g, 0, none⟩) P.per P.per rfl rfl (List.replicate P.per (.int .u64 0)) 30 (ncells (P.pages n)) ?_ (by exact heap_alloc_new w _) (by exact hN'.out.keeps ((Keeps.refl Nil w).alloc _)) (by simp) (ncells_one _); intro w2 hh2 hk2))
    go_ret
    refine ⟨w.heap.size, rfl, ?_, Nat.le_refl _, ((Keeps.refl Nil w).alloc _).trans' hk2 (fun j hj => .inr (by rw [hj]; exact Nat.le_refl _))⟩
    unfold NumB
    rw [hh2, show List.take P.per (ncells (P.pages n)) = ncells (P.pages n) from List.take_of_length_le (by rw [ncells_len, hlen]; exact Nat.le_refl _)]
    simp [splice, ncells_len, hlen]


/-! ### Load -/
theorem PgB.set5 (h : PgB w pb mb P f wa wc O) : PgB (w.setCell ⟨pb, 5, none⟩ (.int .i64 ((P.loads : Int) + 1))) pb mb { P with loads := P.loads + 1 } f wa wc O :=
  h.edit ((Keeps.refl (· = pb) w).setCell (.inl rfl) _) (by rw [heap_setCell_same h.blk]; simp [pgCells]) rfl rfl rfl
theorem PgB.set6 (h : PgB w pb mb P f wa wc O) : PgB (w.setCell ⟨pb, 6, none⟩ (.int .i64 ((P.stores : Int) + 1))) pb mb { P with stores := P.stores + 1 } f wa wc O :=
  h.edit ((Keeps.refl (· = pb) w).setCell (.inl rfl) _) (by rw [heap_setCell_same h.blk]; simp [pgCells]) rfl rfl rfl
theorem PgB.set8 (h : PgB w pb mb P f wa wc O) (n : Int) : PgB (w.setCell ⟨pb, 8, none⟩ (.int .i64 n)) pb mb { P with last := n } f wa wc O :=
  h.edit ((Keeps.refl (· = pb) w).setCell (.inl rfl) _) (by rw [heap_setCell_same h.blk]; simp [pgCells]) rfl rfl rfl
theorem PgB.own {k : Nat} (h : PgB w pb mb P f wa wc O) (hk : k = pb) : O k := by rw [hk]; exact h.opb
def LoadBad (w : World) (pb : Nat) (P : Pg) (O : Nat → Prop) (e : Ending) (w' : World) : Prop := e = .returned (.tuple #[.slice none 0 0, .int .i64 200]) ∧ PgAt w' pb P.loaded O ∧ Keeps O w w'
def LoadOk (w : World) (pb : Nat) (P : Pg) (n : Int) (O : Nat → Prop) (e : Ending) (w' : World) : Prop :=
  ∃ g, e = .returned (.tuple #[.slice (some ⟨g, 0, none⟩) P.per P.per, .int .i64 0]) ∧ NumB w' g (P.pages n) ∧ w.heap.size ≤ g ∧ PgAt w' pb P.loaded O ∧ Keeps O w w'
theorem load_end {w1 w2 : World} (h1 : Keeps O w w1) (hO : ∀ k, k = pb → O k) (h2 : Keeps (· = pb) w1 w2) : Keeps O w w2 := h1.trans (h2.mono hO)
set_option maxHeartbeats 1000000 in
theorem load_bad (h : PgAt w pb P O) (n : Int) (hb : P.Lt 1000000000) (hf : P.fails = true) : Calls Try.prog 95 #[.pointer (some ⟨pb, 0, none⟩), .int .i64 n] w (LoadBad w pb P O) := by
  obtain ⟨mb, f, wa, wc, h⟩ := h
  have hbl := hb.loads
  have hs := h.set5
  have hF := fails_any hs hb.calls
  rw [show Pg.fails { P with loads := P.loads + 1 } = true from hf] at hF
  have hF := Lib.hid hF
  have c5 := cell_of_heap h.blk 5
  simp [pgCells] at c5
  have f0 := frozen_of_heap h.blk
  have hk := Lib.hid ((Keeps.refl O w).setCell (p := ⟨pb, 5, none⟩) (.inl h.opb) (.int .i64 ((P.loads : Int) + 1)))
  have hO := Lib.hid (fun k hk => h.own (k := k) hk)
  clear h hs hf hb
  go_enter Try.func95, Try.ntmps95
  go_wp2_with fail
  refine (hF.out).mono ?_
  rintro e w2 ⟨rfl, hB, hk2⟩
  have hE := Lib.hid (show PgAt w2 pb P.loaded O ∧ Keeps O w w2 from ⟨⟨_, _, _, _, hB⟩, load_end hk.out hO.out hk2⟩)
  clear hB hk2
  go_wp2_with fail
  go_ret2
  exact ⟨rfl, hE.out⟩
set_option maxHeartbeats 1000000 in
theorem load_ok (h : PgAt w pb P O) (n : Int) (hb : P.Lt 1000000000) (hf : P.fails = false) : Calls Try.prog 95 #[.pointer (some ⟨pb, 0, none⟩), .int .i64 n] w (LoadOk w pb P n O) := by
  obtain ⟨mb, f, wa, wc, h⟩ := h
  have hbl := hb.loads
  have hs := h.set5
  have hF := fails_any hs hb.calls
  rw [show Pg.fails { P with loads := P.loads + 1 } = false from hf] at hF
  have hF := Lib.hid hF
  have c5 := cell_of_heap h.blk 5
  simp [pgCells] at c5
  have f0 := frozen_of_heap h.blk
  have hk := Lib.hid ((Keeps.refl O w).setCell (p := ⟨pb, 5, none⟩) (.inl h.opb) (.int .i64 ((P.loads : Int) + 1)))
  have hO := Lib.hid (fun k hk => h.own (k := k) hk)
  clear h hs hf hb
  go_enter Try.func95, Try.ntmps95
  go_wp2_with fail
  refine (hF.out).mono ?_
  rintro e w2 ⟨rfl, hB, hk2⟩
  have hP : Hid (Calls Try.prog 49 _ _ (PageOut w2 P.per (P.pages n))) := Lib.hid (page_any hB n)
  have hE := Lib.hid (show PgB w2 pb mb P.loaded f wa wc O ∧ Keeps O w w2 from ⟨hB, load_end hk.out hO.out hk2⟩)
  clear hB hk2
  go_wp2_with fail
  refine (hP.out).mono ?_
  rintro e w3 ⟨g, rfl, hN, hg, hk3⟩
  have hE3 := Lib.hid (show NumB w3 g (P.pages n) ∧ w.heap.size ≤ g ∧ PgAt w3 pb P.loaded O ∧ Keeps O w w3 from
    ⟨hN, Nat.le_trans hE.out.2.size hg, ⟨_, _, _, _, hE.out.1.keeps hk3 (fun _ _ h => h)⟩, hE.out.2.trans (hk3.mono (fun _ h => h.elim))⟩)
  clear hN hg hk3
  go_wp2_with fail
  go_ret2
  exact ⟨g, rfl, hE3.out⟩

/-! ### Store -/
theorem PgB.was' {g : Nat} {l : List Int} (h : PgB w pb mb P f wa wc O) (hn : NumB w g l) (hl : l.length ≤ 1024) (hg : g < w.heap.size) :
    PgB (w.setCell ⟨pb, 9, none⟩ (.slice (some ⟨g, 0, none⟩) l.length l.length)) pb mb { P with was := l } f (some ⟨g, 0, none⟩) l.length (fun k => O k ∨ k = g) := by
  have hk := (Keeps.refl (· = pb) w).setCell (p := ⟨pb, 9, none⟩) (.inl rfl) (.slice (some ⟨g, 0, none⟩) l.length l.length)
  have hm : mb ≠ pb := h.map.ne h.blk
  refine ⟨by rw [heap_setCell_same h.blk]; simp [pgCells], h.map.keeps hk hm, fun n v hv => ?_, h.zero, h.len, .inr ⟨g, rfl, hn.keeps hk (hn.ne h.blk (by decide)), .inr rfl⟩, hl, .inl h.opb, .inl h.omb, fun k hkk => Nat.lt_of_lt_of_le (hkk.elim (h.lt k) (fun e => by rw [e]; exact hg)) hk.size, h.per⟩
  obtain ⟨g', a1, a2, a3⟩ := h.page n v hv
  exact ⟨g', a1, a2.keeps hk (a2.ne h.blk (by decide)), .inl a3⟩
theorem NumB.nemap {g : Nat} {l : List Int} {f : List (Int × Value)} (h : NumB w g l) (hm : MapAt w mb f) : g ≠ mb := fun e => hm.ne h e.symm
theorem PgB.put {g : Nat} {n : Int} {l : List Int} (h : PgB w pb mb P f wa wc O) (hn : NumB w g l) (hl : l.length = P.per) (hg : g < w.heap.size) (hm : MapAt w' mb (mset n (.slice (some ⟨g, 0, none⟩) P.per P.per) f)) (hk : Keeps (· = mb) w w') :
    PgB w' pb mb { P with pages := fun i => if i = n then l else P.pages i } (mset n (.slice (some ⟨g, 0, none⟩) P.per P.per) f) wa wc (fun k => O k ∨ k = g) := by
  have hne : pb ≠ mb := fun e => h.map.ne h.blk e.symm
  refine ⟨hk.heap h.blk hne, hm, fun i v hv => ?_, fun i hi => ?_, fun i => ?_, ?_, h.wlen, .inl h.opb, .inl h.omb, fun k hkk => Nat.lt_of_lt_of_le (hkk.elim (h.lt k) (fun e => by rw [e]; exact hg)) hk.size, h.per⟩
  · rw [mget_set] at hv
    by_cases hin : i = n
    · rw [if_pos hin] at hv
      cases hv
      exact ⟨g, rfl, by show NumB w' g (if i = n then l else P.pages i); rw [if_pos hin]; exact hn.keeps hk (hn.nemap h.map), .inr rfl⟩
    · rw [if_neg hin] at hv
      obtain ⟨g', a1, a2, a3⟩ := h.page i v hv
      exact ⟨g', a1, by show NumB w' g' (if i = n then l else P.pages i); rw [if_neg hin]; exact a2.keeps hk (a2.nemap h.map), .inl a3⟩
  · rw [mget_set] at hi
    by_cases hin : i = n
    · rw [if_pos hin] at hi; cases hi
    · rw [if_neg hin] at hi
      show (if i = n then l else P.pages i) = _
      rw [if_neg hin]; exact h.zero i hi
  · show (if i = n then l else P.pages i).length = P.per
    by_cases hin : i = n
    · rw [if_pos hin]; exact hl
    · rw [if_neg hin]; exact h.len i
  · rcases h.was with a1 | ⟨g', a1, a2, a3⟩
    · exact .inl a1
    · exact .inr ⟨g', a1, a2.keeps hk (a2.nemap h.map), .inl a3⟩
def StoreBad (w : World) (pb : Nat) (P : Pg) (O : Nat → Prop) (e : Ending) (w' : World) : Prop := e = .returned (.int .i64 201) ∧ PgAt w' pb P.storeBad O ∧ Keeps O w w'
def StoreOk (w : World) (pb : Nat) (P : Pg) (n : Int) (l : List Int) (O : Nat → Prop) (e : Ending) (w' : World) : Prop :=
  e = .returned (.int .i64 0) ∧ ∃ O', PgAt w' pb (P.stored n l) O' ∧ Keeps O w w' ∧ Grow O O' w w'
set_option maxHeartbeats 1000000 in
theorem store_bad (h : PgAt w pb P O) (n : Int) (v : Value) (hb : P.Lt 1000000000) (hf : P.fails = true) : Calls Try.prog 96 #[.pointer (some ⟨pb, 0, none⟩), .int .i64 n, v] w (StoreBad w pb P O) := by
  obtain ⟨mb, f, wa, wc, h⟩ := h
  have hbl := hb.stores
  have hs := h.set6
  have hF := fails_any hs hb.calls
  rw [show Pg.fails { P with stores := P.stores + 1 } = true from hf] at hF
  have hF := Lib.hid hF
  have c5 := cell_of_heap h.blk 6
  simp [pgCells] at c5
  have f0 := frozen_of_heap h.blk
  have hk := Lib.hid ((Keeps.refl O w).setCell (p := ⟨pb, 6, none⟩) (.inl h.opb) (.int .i64 ((P.stores : Int) + 1)))
  have hO := Lib.hid (fun k hk => h.own (k := k) hk)
  clear h hs hf hb
  go_enter Try.func96, Try.ntmps96
  go_wp2_with fail
  refine (hF.out).mono ?_
  rintro e w2 ⟨rfl, hB, hk2⟩
  have hE := Lib.hid (show PgAt w2 pb P.storeBad O ∧ Keeps O w w2 from ⟨⟨_, _, _, _, hB⟩, load_end hk.out hO.out hk2⟩)
  clear hB hk2
  go_wp2_with fail
  go_ret
  exact ⟨rfl, hE.out⟩
set_option maxHeartbeats 1000000 in
set_option maxRecDepth 100000 in
theorem store_ok {g : Nat} {l : List Int} (h : PgAt w pb P O) (n : Int) (hn : NumB w g l) (hl : l.length = P.per) (hg : ¬ O g) (hb : P.Lt 1000000000) (hf : P.fails = false) :
    Calls Try.prog 96 #[.pointer (some ⟨pb, 0, none⟩), .int .i64 n, .slice (some ⟨g, 0, none⟩) P.per P.per] w (StoreOk w pb P n l O) := by
  obtain ⟨i30, hi, hz0, hz1, hz2⟩ := info_parts Try.info30n
  obtain ⟨mb, f, wa, wc, h⟩ := h
  have hper := h.per
  have hmk := Lib.hid (fun W => run_make1 (P := Try.prog) W 67 30 i30 (.int .u64 0) 8 Try.underlying67 hi hz0 hz1 hz2 rfl .i64 .i64 P.per (by omega) (by omega))
  have hbl := hb.stores
  have hs := h.set6
  have hF := fails_any hs hb.calls
  rw [show Pg.fails { P with stores := P.stores + 1 } = false from hf] at hF
  have hF := Lib.hid hF
  have c5 := cell_of_heap h.blk 6
  simp [pgCells] at c5
  have f0 := frozen_of_heap h.blk
  have hk := Lib.hid ((Keeps.refl O w).setCell (p := ⟨pb, 6, none⟩) (.inl h.opb) (.int .i64 ((P.stores : Int) + 1)))
  have hO := Lib.hid (fun k hk => h.own (k := k) hk)
  have hn' := Lib.hid hn
  have hmO := Lib.hid h.omb
  clear h hs hf hb hn
  go_enter Try.func96, Try.ntmps96
  go_wp2_with fail
  refine (hF.out).mono ?_
  rintro e w2 ⟨rfl, hB, hk2⟩
  have c0 : w2.cell? ⟨pb, 0, none⟩ = some (.int .i64 (P.per : Nat)) := cell_of_heap hB.blk 0
  have c8 : w2.cell? ⟨pb, 8, none⟩ = some (.int .i64 P.last) := cell_of_heap hB.blk 8
  have f2 := frozen_of_heap hB.blk
  have e1 : (((P.per : Nat) : Int) == ((P.per : Nat) : Int)) = true := by simp
  have h8 := Lib.hid (hB.set8 n)
  have hP : Hid (Calls Try.prog 49 _ _ (PageOut (w2.setCell ⟨pb, 8, none⟩ (.int .i64 n)) P.per (P.pages n))) := Lib.hid (page_any h8.out n)
  have hk3 := Lib.hid ((load_end hk.out hO.out hk2).setCell (p := ⟨pb, 8, none⟩) (.inl (hO.out _ rfl)) (.int .i64 n))
  clear hB hk2
  go_wp2_with fail
  refine (hP.out).mono ?_
  rintro e w3 ⟨g1, rfl, hN1, hg1, hk4⟩
  have hpl := h8.out.len n
  have h9 := (h8.out.keeps hk4 (fun _ _ h => h)).was' (g := g1) (l := P.pages n) hN1 (by have := h8.out.len n; have e : (P.pages n).length = P.per := this; omega) (lt_of_heap hN1)
  have hlen : (P.pages n).length = P.per := hpl
  rw [hlen] at h9
  have c0 : w3.cell? ⟨pb, 0, none⟩ = some (.int .i64 (P.per : Nat)) := cell_of_heap (h8.out.keeps hk4 (fun _ _ h => h)).blk 0
  have c9 : w3.cell? ⟨pb, 9, none⟩ = some (.slice wa P.was.length wc) := cell_of_heap (h8.out.keeps hk4 (fun _ _ h => h)).blk 9
  have c0' : (w3.setCell ⟨pb, 9, none⟩ (.slice (some ⟨g1, 0, none⟩) P.per P.per)).cell? ⟨pb, 0, none⟩ = some (.int .i64 (P.per : Nat)) := cell_of_heap h9.blk 0
  have f3 := frozen_of_heap (h8.out.keeps hk4 (fun _ _ h => h)).blk
  have hm3 := hmk.out (w3.setCell ⟨pb, 9, none⟩ (.slice (some ⟨g1, 0, none⟩) P.per P.per))
  have h9' := Lib.hid h9
  have hg1' : w2.heap.size ≤ g1 := by simpa [World.setCell] using hg1
  have hk9 := Lib.hid ((hk3.out.trans (hk4.mono (T := O) (fun _ h => h.elim))).setCell (p := ⟨pb, 9, none⟩) (.inl (hO.out _ rfl)) (.slice (some ⟨g1, 0, none⟩) P.per P.per))
  have hng : ¬ g = g1 := by
    have a1 := lt_of_heap hn'.out
    have a2 := hk3.out.size
    omega
  have hs9 := Lib.hid ((hn'.out.src hl).block_keeps hk9.out hg)
  have hN1' := Lib.hid hN1
  clear h9 hN1 hk4 hP hpl
  have hsz : (w3.setCell ⟨pb, 9, none⟩ (.slice (some ⟨g1, 0, none⟩) P.per P.per)).heap.size = w3.heap.size := by simp [World.setCell]
  have hsz' := Lib.hid hsz
  clear hsz
  go_wp2_with (first
    | (refine wpList_cpy _ rfl _ _ 67 67 rfl 30 Try.underlying67 size30 w3.heap.size 0 P.per P.per (some ⟨g, 0, none⟩) P.per P.per rfl rfl (List.replicate P.per (.int .u64 0)) 30 (ncells l) ?_ (by exact heap_alloc_set w3 _ _ _) (by exact hs9.out.keeps ((Keeps.refl Nil _).alloc _)) (by simp) (ncells_one _)
       intro w4 hh4 hk4
       have h4 := Lib.hid (PgB.keeps (h9'.out.keeps ((Keeps.refl Nil _).alloc _) (fun _ _ h => h)) (T := (· = w3.heap.size)) (w' := w4) hk4 (fun k hk e => by have := h9'.out.lt k hk; rw [hsz'.out] at this; omega))
       have c1 : w4.cell? ⟨pb, 1, none⟩ = some (.map (some mb)) := cell_of_heap h4.out.blk 1
       have hN4 := Lib.hid (show NumB w4 w3.heap.size l from by
         unfold NumB
         rw [hh4, show List.take P.per (ncells l) = ncells l from List.take_of_length_le (by rw [ncells_len, hl]; exact Nat.le_refl _)]
         simp [splice, ncells_len, hl])
       have hm4 := Lib.hid h4.out.map
       have hk44 := Lib.hid (show Keeps O w w4 from (hk9.out.alloc _).trans' hk4 (fun j hj => .inr (by
         have a1 := hk3.out.size
         have a2 : w2.heap.size ≤ w3.heap.size := Nat.le_of_lt (Nat.lt_of_le_of_lt hg1' (lt_of_heap hN1'.out))
         have a3 : (w2.setCell ⟨pb, 8, none⟩ (.int .i64 n)).heap.size = w2.heap.size := by simp [World.setCell]
         rw [a3] at a1
         omega)))
       clear hh4 hk4)
    | (at_mapUpdate
       refine wpList_upd _ rfl _ _ _ 66 rfl 3 67 Try.underlying66 Try.underlying3 mb _ rfl (by exact hm4.out) n rfl (.slice (some ⟨w3.heap.size, 0, none⟩) P.per P.per) rfl ?_
       intro w5 hm5 hk5 _
       have hm5' := Lib.hid hm5
       have hk5' := Lib.hid hk5
       clear hm5 hk5))
  go_ret
  have h5 := h4.out.put hN4.out hl (lt_of_heap hN4.out) hm5'.out hk5'.out
  refine ⟨rfl, _, ⟨mb, _, _, _, h5⟩, hk44.out.trans' hk5'.out (fun j hj => .inl (by rw [hj]; exact hmO.out)), fun k hk => ?_⟩
  have a1 := hk9.out.size
  rw [hsz'.out] at a1
  have a4 := lt_of_heap hN4.out
  have a6 := hk5'.out.size
  rcases hk with (hk | hk) | hk
  · exact .inl hk
  · right
    have b1 := hk3.out.size
    have b2 : (w2.setCell ⟨pb, 8, none⟩ (.int .i64 n)).heap.size = w2.heap.size := by simp [World.setCell]
    have b3 := lt_of_heap hN1'.out
    rw [b2] at b1
    exact ⟨by omega, by omega⟩
  · exact .inr ⟨by omega, by omega⟩
end Go.Proofs.Ytnickcjkipemmaa
