/- Find whole, Delete, Key, Free -/
import Derived.Test.YtmdgbcbnciaikaaA
namespace Go.Proofs.Ytmdgbcbnciaikaa
open Go.RowKit

attribute [local go_sem ↓] Go.wp_at_zero Go.wp_at_succ

def ferr (s : Spc) : Int := if s = sp0 then 140 else 0
theorem tat_get {T : List Spc} (hl : T.length = 16) {i : Nat} (hi : i < 16) : T[i]? = some (tat T ((i : Int) + 1)) := by
  unfold tat
  rw [if_pos ⟨by omega, by omega⟩, show ((i : Int) + 1 - 1).toNat = i by omega, List.getD_eq_getElem?_getD]
  rw [List.getElem?_eq_getElem (by omega)]; rfl
theorem tat_out {T : List Spc} {id : Int} (h : id < 1 ∨ 16 < id) : tat T id = sp0 := by unfold tat; rw [if_neg (by omega)]
theorem id_cases (id : Int) : id < 1 ∨ 16 < id ∨ ∃ i : Nat, i < 16 ∧ id = (i : Int) + 1 := by
  by_cases h1 : id < 1
  · exact .inl h1
  · by_cases h2 : 16 < id
    · exact .inr (.inl h2)
    · exact .inr (.inr ⟨(id - 1).toNat, by omega, by omega⟩)
theorem tat_id {keys : Int} {T : List Spc} (h : TabOk keys T) {i : Nat} (hi : i < 16) (hne : tat T ((i : Int) + 1) ≠ sp0) : (tat T ((i : Int) + 1)).id = (i : Int) + 1 ∧ SpOk keys (tat T ((i : Int) + 1)) := by
  rcases h.one i _ (tat_get h.len hi) with h1 | h1
  · exact absurd h1 hne
  · exact h1
theorem find_any {w : World} {tb : Nat} {E : TypeId} {keys : Int} {T : List Spc} (h : TabAt w tb E keys T) (hok : TabOk keys T) (id : Int) :
    Calls Try.prog 19 #[.pointer (some ⟨tb, 0, none⟩), .int .i64 id] w fun e w' => e = .returned (.tuple #[spV (tat T id), .int .i64 (ferr (tat T id))]) ∧ Keeps Nil w w' := by
  rcases id_cases id with h1 | h1 | ⟨i, hi, rfl⟩
  · rw [tat_out (.inl h1)]; exact find_low h1
  · rw [tat_out (.inr h1)]; exact find_high h1
  · have hg := tat_get hok.len hi
    by_cases hs : tat T ((i : Int) + 1) = sp0
    · rw [hs] at hg ⊢; exact find_none h hi hg
    · obtain ⟨h1, _⟩ := tat_id hok hi hs
      unfold ferr
      rw [if_neg hs]
      generalize tat T ((i : Int) + 1) = s at *
      obtain ⟨a, b, c⟩ := s
      simp only at h1
      subst h1
      exact find_in h hi hg

/-- one is taken away -/
def tdel (T : List Spc) (id : Int) : List Spc := if 1 ≤ id ∧ id ≤ 16 then T.set (id - 1).toNat sp0 else T
theorem set_same {α : Type} {T : List α} {i : Nat} {s : α} (h : T[i]? = some s) : T.set i s = T := by
  apply List.ext_getElem?
  intro j
  rw [List.getElem?_set]
  obtain ⟨hi, e⟩ := List.getElem?_eq_some_iff.1 h
  by_cases hj : i = j
  · subst hj; rw [if_pos rfl, if_pos hi, h]
  · rw [if_neg hj]
theorem tdel_none {keys : Int} {T : List Spc} (hok : TabOk keys T) {id : Int} (h : tat T id = sp0) : tdel T id = T := by
  unfold tdel
  rcases id_cases id with h1 | h1 | ⟨i, hi, rfl⟩
  · rw [if_neg (by omega)]
  · rw [if_neg (by omega)]
  · rw [if_pos (by omega), show ((i : Int) + 1 - 1).toNat = i by omega]
    have hg := tat_get hok.len hi
    rw [h] at hg
    exact set_same hg
theorem tdel_ok {keys : Int} {T : List Spc} (hok : TabOk keys T) (id : Int) : TabOk keys (tdel T id) := by
  unfold tdel
  split
  · exact hok.del _
  · exact hok

theorem cells3 (w : World) (g : Nat) {v0 v1 v2 x0 x1 x2 : Value} (h0 : w.cell? ⟨g, 0, none⟩ = some x0) (h1 : w.cell? ⟨g, 1, none⟩ = some x1) (h2 : w.cell? ⟨g, 2, none⟩ = some x2) :
    (((w.setCell ⟨g, 0, none⟩ v0).setCell ⟨g, 1, none⟩ v1).setCell ⟨g, 2, none⟩ v2).cell? ⟨g, 0, none⟩ = some v0 ∧ (((w.setCell ⟨g, 0, none⟩ v0).setCell ⟨g, 1, none⟩ v1).setCell ⟨g, 2, none⟩ v2).cell? ⟨g, 1, none⟩ = some v1 ∧
      (((w.setCell ⟨g, 0, none⟩ v0).setCell ⟨g, 1, none⟩ v1).setCell ⟨g, 2, none⟩ v2).cell? ⟨g, 2, none⟩ = some v2 := by
  have n01 : (⟨g, 0, none⟩ : Addr) ≠ ⟨g, 1, none⟩ := fun h => by cases h
  have n02 : (⟨g, 0, none⟩ : Addr) ≠ ⟨g, 2, none⟩ := fun h => by cases h
  have n12 : (⟨g, 1, none⟩ : Addr) ≠ ⟨g, 2, none⟩ := fun h => by cases h
  refine ⟨?_, ?_, ?_⟩
  · rw [World.cell?_setCell_other _ _ _ _ n02.symm, World.cell?_setCell_other _ _ _ _ n01.symm]
    exact World.cell?_setCell_same _ _ _ h0
  · rw [World.cell?_setCell_other _ _ _ _ n12.symm]
    refine World.cell?_setCell_same _ _ _ (u := x1) ?_
    rw [World.cell?_setCell_other _ _ _ _ n01]; exact h1
  · refine World.cell?_setCell_same _ _ _ (u := x2) ?_
    rw [World.cell?_setCell_other _ _ _ _ n12, World.cell?_setCell_other _ _ _ _ n02]; exact h2
/-- what a walk needs of a fresh block of three noughts, in a later world -/
theorem fresh3 {w w1 : World} (hk : Keeps Nil (w.alloc zblk) w1) :
    w1.cell? ⟨w.heap.size, 0, none⟩ = some (.int .i64 0) ∧ w1.cell? ⟨w.heap.size, 1, none⟩ = some (.int .i64 0) ∧ w1.cell? ⟨w.heap.size, 2, none⟩ = some (.int .i64 0) ∧
    w1.frozen? ⟨w.heap.size, 0, none⟩ = false ∧ w1.frozen? ⟨w.heap.size, 1, none⟩ = false ∧ w1.frozen? ⟨w.heap.size, 2, none⟩ = false := by
  have h := hk.heap (heap_alloc_new w zblk) (fun h => h)
  exact ⟨cell_of_heap h 0, cell_of_heap h 1, cell_of_heap h 2, frozen_of_heap h 0, frozen_of_heap h 1, frozen_of_heap h 2⟩
/-- three cells are written -/
def sp3 (w : World) (g o : Nat) (x y z : Int) : World := ((w.setCell ⟨g, o, none⟩ (.int .i64 x)).setCell ⟨g, o + 1, none⟩ (.int .i64 y)).setCell ⟨g, o + 2, none⟩ (.int .i64 z)
/-- the answer's block is written -/
theorem Keeps.set3 {S : Nat → Prop} {a w : World} (h : Keeps S a w) {g : Nat} (hg : S g ∨ a.heap.size ≤ g) (i j k : Nat) (x y z : Value) : Keeps S a (((w.setCell ⟨g, i, none⟩ x).setCell ⟨g, j, none⟩ y).setCell ⟨g, k, none⟩ z) :=
  ((h.setCell (p := ⟨g, i, none⟩) hg x).setCell (p := ⟨g, j, none⟩) hg y).setCell (p := ⟨g, k, none⟩) hg z

set_option maxHeartbeats 2000000 in
theorem delete_none {w : World} {tb : Nat} {E : TypeId} {keys : Int} {T : List Spc} (h : TabAt w tb E keys T) (hok : TabOk keys T) {id : Int} (hs : tat T id = sp0) :
    Calls Try.prog 11 #[.pointer (some ⟨tb, 0, none⟩), .int .i64 id] w fun e w' => e = .returned (.tuple #[spV sp0, .int .i64 140]) ∧ Keeps Nil w w' := by
  have hF := Lib.hid (find_any (h.keeps ((Keeps.refl Nil w).alloc zblk) (fun h => h)) hok id)
  rw [hs] at hF
  simp only [zblk] at hF
  clear h hs
  go_enter Try.func11, Try.ntmps11
  go_wp2_with fail
  refine (hF.out).mono ?_
  rintro e w1 ⟨rfl, hk⟩
  have hk' := Lib.hid hk
  obtain ⟨c0, c1, c2, f0, f1, f2⟩ := fresh3 (hk.alloc (.cells #[.int .i64 0, .int .i64 0, .int .i64 0] 30))
  clear hk hF
  simp only [spV, sp0, ferr, if_true]
  go_wp2_with fail
  obtain ⟨y0, y1, y2⟩ := cells3 _ _ (v0 := .int .i64 0) (v1 := .int .i64 0) (v2 := .int .i64 0) c0 c1 c2
  exact bodyPost_ret (v := .tuple #[spV sp0, .int .i64 140]) (by simp [results, Try.results11, go_sem, spV, sp0, y0, y1, y2]) rfl ⟨rfl, ((((Keeps.refl Nil w).alloc _).trans hk'.out).alloc _).set3 (.inr (Nat.le_refl _)) _ _ _ _ _ _⟩

set_option maxHeartbeats 4000000 in
theorem delete_in {w : World} {tb i : Nat} {E : TypeId} {keys b z : Int} {T : List Spc} (h : TabAt w tb E keys T) (hi : i < 16) (hg : T[i]? = some ⟨(i : Int) + 1, b, z⟩) :
    Calls Try.prog 11 #[.pointer (some ⟨tb, 0, none⟩), .int .i64 ((i : Int) + 1)] w fun e w' => e = .returned (.tuple #[spV ⟨(i : Int) + 1, b, z⟩, .int .i64 0]) ∧ TabAt w' tb E keys (T.set i sp0) ∧ Keeps (· = tb) w w' := by
  have hlt := lt_of_heap h
  have hF := Lib.hid (find_in (h.keeps ((Keeps.refl Nil w).alloc zblk) (fun h => h)) hi hg)
  simp only [zblk] at hF
  have h3 : wrap64 ((i : Int) + 1 - 1) = (i : Int) := by rw [show (i : Int) + 1 - 1 = i by omega]; unfold wrap64; omega
  have h4 : (0 : Int) ≤ i := by omega
  have h5 : (i : Int) < 16 := by omega
  have h' := Lib.hid h
  have hg' := Lib.hid hg
  clear h hg hi
  go_enter Try.func11, Try.ntmps11
  go_wp2_with fail
  refine (hF.out).mono ?_
  rintro e w1 ⟨rfl, hk⟩
  have hk' := Lib.hid hk
  have hW : Keeps Nil w (w1.alloc (.cells #[.int .i64 ((i : Int) + 1), .int .i64 b, .int .i64 z] 30)) := (((Keeps.refl Nil w).alloc _).trans hk).alloc _
  have hT := h'.out.keeps hW (fun h => h)
  obtain ⟨t0, t1, t2⟩ := hT.cells hg'.out
  have u0 := hT.frozen (1 + i * 3)
  have u1 := hT.frozen (1 + i * 3 + 1)
  have u2 := hT.frozen (1 + i * 3 + 2)
  have hz1 := hk.size
  have n0 : ¬ w.heap.size = tb := by omega
  have n1 : ¬ w1.heap.size = tb := by simp at hz1; omega
  have n2 : ¬ tb = w1.heap.size := fun e => n1 e.symm
  have n3 : ¬ tb = w.heap.size := fun e => n0 e.symm
  have hT' := Lib.hid hT
  have hW' := Lib.hid hW
  obtain ⟨c0, c1, c2, f0, f1, f2⟩ := fresh3 (hk.alloc (.cells #[.int .i64 ((i : Int) + 1), .int .i64 b, .int .i64 z] 30))
  have hF' := Lib.hid (fresh3 (hk.alloc (.cells #[.int .i64 ((i : Int) + 1), .int .i64 b, .int .i64 z] 30)))
  clear hk hF hT hW
  simp only [spV]
  go_wp2_with fail
  have hK3 : Keeps (· = tb) (w1.alloc (.cells #[.int .i64 ((i : Int) + 1), .int .i64 b, .int .i64 z] 30)) (sp3 (w1.alloc (.cells #[.int .i64 ((i : Int) + 1), .int .i64 b, .int .i64 z] 30)) tb (1 + i * 3) 0 0 0) := by unfold sp3; exact (Keeps.refl (· = tb) _).set3 (.inl rfl) _ _ _ _ _ _
  obtain ⟨b0, b1, b2, _⟩ := hF'.out
  obtain ⟨y0, y1, y2⟩ := cells3 _ _ (v0 := .int .i64 ((i : Int) + 1)) (v1 := .int .i64 b) (v2 := .int .i64 z) (hK3.cell b0 (fun e => n0 e)) (hK3.cell b1 (fun e => n0 e)) (hK3.cell b2 (fun e => n0 e))
  have hS := hT'.out.set hg'.out sp0
  simp only [sp3] at y0 y1 y2 hK3
  refine bodyPost_ret (v := .tuple #[spV ⟨(i : Int) + 1, b, z⟩, .int .i64 0]) (by simp [results, Try.results11, go_sem, spV, y0, y1, y2]) rfl ⟨rfl, ?_, ?_⟩
  · exact TabAt.keeps hS ((Keeps.refl (· = w.heap.size) _).set3 (.inl rfl) _ _ _ _ _ _) (fun e => n3 e)
  · exact ((hW'.out.mono (fun _ h => h.elim)).trans hK3).set3 (.inr (Nat.le_refl _)) _ _ _ _ _ _

theorem delete_any {w : World} {tb : Nat} {E : TypeId} {keys : Int} {T : List Spc} (h : TabAt w tb E keys T) (hok : TabOk keys T) (id : Int) :
    Calls Try.prog 11 #[.pointer (some ⟨tb, 0, none⟩), .int .i64 id] w fun e w' => e = .returned (.tuple #[spV (tat T id), .int .i64 (ferr (tat T id))]) ∧ TabAt w' tb E keys (tdel T id) ∧ Keeps (· = tb) w w' := by
  by_cases hs : tat T id = sp0
  · rw [hs, tdel_none hok hs]
    refine (delete_none h hok hs).mono ?_
    rintro e w' ⟨rfl, hk⟩
    exact ⟨rfl, h.keeps hk (fun h => h), hk.mono (fun _ h => h.elim)⟩
  · rcases id_cases id with h1 | h1 | ⟨i, hi, rfl⟩
    · exact absurd (tat_out (.inl h1)) hs
    · exact absurd (tat_out (.inr h1)) hs
    · have hg := tat_get hok.len hi
      have hd : tdel T ((i : Int) + 1) = T.set i sp0 := by unfold tdel; rw [if_pos (by omega), show ((i : Int) + 1 - 1).toNat = i by omega]
      obtain ⟨h1, _⟩ := tat_id hok hi hs
      rw [hd]
      unfold ferr
      rw [if_neg hs]
      generalize tat T ((i : Int) + 1) = s at *
      obtain ⟨a, b, c⟩ := s
      simp only at h1
      subst h1
      exact delete_in h hi hg

/-! ### Key -/
def keyV (s : Spc) (lba count : Int) : Int := if s = sp0 then 0 else if count < 1 ∨ s.size < count ∨ s.size - count < lba then 0 else s.base + lba
def keyE (s : Spc) (lba count : Int) : Int := if s = sp0 then 140 else if count < 1 ∨ s.size < count ∨ s.size - count < lba then 141 else 0
set_option maxHeartbeats 4000000 in
theorem key_any {w : World} {tb : Nat} {E : TypeId} {keys : Int} {T : List Spc} (h : TabAt w tb E keys T) (hok : TabOk keys T) (hkm : keys ≤ 4096) (id lba count : Int) (hl0 : 0 ≤ lba) (hl1 : lba < 18446744073709551616)
    (hc0 : -9223372036854775808 ≤ count) (hc1 : count < 9223372036854775808) :
    Calls Try.prog 13 #[.pointer (some ⟨tb, 0, none⟩), .int .i64 id, .int .u64 lba, .int .i64 count] w fun e w' => e = .returned (.tuple #[.int .i64 (keyV (tat T id) lba count), .int .i64 (keyE (tat T id) lba count)]) ∧ Keeps Nil w w' := by
  have hF := Lib.hid (find_any h hok id)
  by_cases hs : tat T id = sp0
  · rw [hs] at hF ⊢
    have e1 : keyV sp0 lba count = 0 := if_pos rfl
    have e2 : keyE sp0 lba count = 140 := if_pos rfl
    rw [e1, e2]
    clear h e1 e2 hs
    go_enter Try.func13, Try.ntmps13
    go_wp2_with fail
    refine (hF.out).mono ?_
    rintro e w1 ⟨rfl, hk⟩
    have hk' := Lib.hid hk
    clear hk hF
    simp only [spV, sp0, ferr, if_true]
    go_wp2_with fail
    go_ret2
    exact ⟨rfl, hk'.out.alloc _⟩
  · rcases id_cases id with h1 | h1 | ⟨i, hi, rfl⟩
    · exact absurd (tat_out (.inl h1)) hs
    · exact absurd (tat_out (.inr h1)) hs
    obtain ⟨_, hso⟩ := tat_id hok hi hs
    obtain ⟨z1, z2, z3⟩ := hso
    generalize ((i : Int) + 1) = id at *
    have e1 : keyV (tat T id) lba count = if count < 1 ∨ (tat T id).size < count ∨ (tat T id).size - count < lba then 0 else (tat T id).base + lba := if_neg hs
    have e2 : keyE (tat T id) lba count = if count < 1 ∨ (tat T id).size < count ∨ (tat T id).size - count < lba then 141 else 0 := if_neg hs
    have e3 : ferr (tat T id) = 0 := if_neg hs
    rw [e1, e2]
    rw [e3] at hF
    clear e1 e2 e3 hs h
    generalize tat T id = s at *
    obtain ⟨a, b, c⟩ := s
    simp only at z1 z2 z3 ⊢
    by_cases g1 : count < 1
    · rw [if_pos (.inl g1), if_pos (.inl g1)]
      go_enter Try.func13, Try.ntmps13
      go_wp2_with fail
      refine (hF.out).mono ?_
      rintro e w1 ⟨rfl, hk⟩
      have hk' := Lib.hid hk
      clear hk hF
      simp only [spV]
      go_wp2_with fail
      go_ret2
      exact ⟨rfl, hk'.out.alloc _⟩
    · by_cases g2 : c < count
      · rw [if_pos (.inr (.inl g2)), if_pos (.inr (.inl g2))]
        go_enter Try.func13, Try.ntmps13
        go_wp2_with fail
        refine (hF.out).mono ?_
        rintro e w1 ⟨rfl, hk⟩
        have hk' := Lib.hid hk
        clear hk hF
        simp only [spV]
        go_wp2_with fail
        go_ret2
        exact ⟨rfl, hk'.out.alloc _⟩
      · have x1 : wrap64 (c - count) = c - count := by unfold wrap64; omega
        have x2 : IntKind.u64.wrap (c - count) = c - count := by simp [IntKind.wrap, IntKind.signed, IntKind.bits]; omega
        by_cases g3 : c - count < lba
        · rw [if_pos (.inr (.inr g3)), if_pos (.inr (.inr g3))]
          go_enter Try.func13, Try.ntmps13
          go_wp2_with fail
          refine (hF.out).mono ?_
          rintro e w1 ⟨rfl, hk⟩
          have hk' := Lib.hid hk
          clear hk hF
          simp only [spV]
          go_wp2_with fail
          go_ret2
          exact ⟨rfl, hk'.out.alloc _⟩
        · rw [if_neg (by omega), if_neg (by omega)]
          have x3 : wrap64 lba = lba := by unfold wrap64; omega
          have x4 : IntKind.i64.wrap lba = lba := by simp [IntKind.wrap, IntKind.signed, IntKind.bits]; omega
          have x5 : wrap64 (b + lba) = b + lba := by unfold wrap64; omega
          go_enter Try.func13, Try.ntmps13
          go_wp2_with fail
          refine (hF.out).mono ?_
          rintro e w1 ⟨rfl, hk⟩
          have hk' := Lib.hid hk
          clear hk hF
          simp only [spV]
          go_wp2_with fail
          go_ret2
          exact ⟨rfl, hk'.out.alloc _⟩

end Go.Proofs.Ytmdgbcbnciaikaa
