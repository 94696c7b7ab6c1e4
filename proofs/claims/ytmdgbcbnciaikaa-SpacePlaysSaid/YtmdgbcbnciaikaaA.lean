/- walks of New, Free, Find, Delete, Key -/
import Derived.Test.YtmdgbcbnciaikaaTab
import Derived.Test.YtmdgbcbnciaikaaChecked
import Derived.BigRegion
import Derived.Outline
import Derived.StillTailTactics
namespace Go.Proofs.Ytmdgbcbnciaikaa
open Go.RowKit

attribute [local go_sem ↓] Go.wp_at_zero Go.wp_at_succ

def spV (s : Spc) : Value := .agg #[.int .i64 s.id, .int .i64 s.base, .int .i64 s.size]
/-- the space at an Id -/
def tat (T : List Spc) (id : Int) : Spc := if 1 ≤ id ∧ id ≤ 16 then T.getD (id - 1).toNat sp0 else sp0

theorem sp_eq (s : Spc) : (s = sp0) ↔ (s.id = 0 ∧ s.base = 0 ∧ s.size = 0) := by
  obtain ⟨a, b, c⟩ := s
  simp [sp0]

set_option maxHeartbeats 1000000 in
theorem empty31 (s : Spc) (w : World) : Calls Try.prog 31 #[spV s] w fun e w' => e = .returned (.bool (decide (s = sp0))) ∧ Keeps Nil w w' := by
  obtain ⟨a, b, c⟩ := s
  simp only [spV]
  by_cases h0 : (⟨a, b, c⟩ : Spc) = sp0
  · have h1 := (sp_eq _).1 h0
    obtain ⟨rfl, rfl, rfl⟩ := h1
    rw [decide_eq_true h0]
    clear h0
    go_enter Try.func31, Try.ntmps31
    go_wp2_with fail
    go_ret
    exact ⟨rfl, ((Keeps.refl Nil w).alloc _)⟩
  · rw [decide_eq_false h0]
    have h1 : ¬ (a = 0 ∧ b = 0 ∧ c = 0) := fun h => h0 ((sp_eq _).2 h)
    clear h0
    go_enter Try.func31, Try.ntmps31
    go_wp2_with fail
    all_goals (first | (exfalso; omega) | (go_ret; exact ⟨rfl, ((Keeps.refl Nil w).alloc _)⟩))

set_option maxHeartbeats 1000000 in
theorem new_bad {keys : Int} (hk : keys < 1 ∨ 4096 < keys) (w : World) : Calls Try.prog 9 #[.int .i64 keys] w fun e w' => e = .returned (.tuple #[.pointer none, .int .i64 1]) ∧ w = w' := by
  by_cases h1 : keys < 1
  · clear hk
    go_enter Try.func9, Try.ntmps9
    go_wp2_with fail
    go_ret2
    exact ⟨rfl, rfl⟩
  · have h2 : 4096 < keys := by omega
    clear hk
    go_enter Try.func9, Try.ntmps9
    go_wp2_with fail
    go_ret2
    exact ⟨rfl, rfl⟩
set_option maxHeartbeats 1000000 in
theorem new_any {keys : Int} (h1 : 1 ≤ keys) (h2 : keys ≤ 4096) (w : World) : Calls Try.prog 9 #[.int .i64 keys] w fun e w' => e = .returned (.tuple #[.pointer (some ⟨w.heap.size, 0, none⟩), .int .i64 0]) ∧ TabAt w' w.heap.size 57 keys (List.replicate 16 sp0) ∧ Keeps Nil w w' := by
  go_enter Try.func9, Try.ntmps9
  go_wp2_with fail
  go_ret2
  exact ⟨rfl, heap_alloc_new _ _, (Keeps.refl Nil w).alloc _⟩

set_option maxHeartbeats 2000000 in
/-- an Id that may not be, or of a place where none is -/
theorem find_low {w : World} {tb : Nat} {id : Int} (h1 : id < 1) : Calls Try.prog 19 #[.pointer (some ⟨tb, 0, none⟩), .int .i64 id] w fun e w' => e = .returned (.tuple #[spV sp0, .int .i64 140]) ∧ Keeps Nil w w' := by
  go_enter Try.func19, Try.ntmps19
  go_wp2_with fail
  exact bodyPost_ret (v := .tuple #[spV sp0, .int .i64 140]) (by simp [results, Try.results19, go_sem, spV, sp0]) rfl ⟨rfl, by repeat (first | exact Keeps.refl _ _ | with_reducible refine Keeps.drew ?_ | with_reducible refine Keeps.alloc ?_ _ | refine Keeps.setCell ?_ (.inr (Nat.le_refl _)) _)⟩
set_option maxHeartbeats 2000000 in
theorem find_high {w : World} {tb : Nat} {id : Int} (h1 : 16 < id) : Calls Try.prog 19 #[.pointer (some ⟨tb, 0, none⟩), .int .i64 id] w fun e w' => e = .returned (.tuple #[spV sp0, .int .i64 140]) ∧ Keeps Nil w w' := by
  have h2 : ¬ id < 1 := by omega
  go_enter Try.func19, Try.ntmps19
  go_wp2_with fail
  exact bodyPost_ret (v := .tuple #[spV sp0, .int .i64 140]) (by simp [results, Try.results19, go_sem, spV, sp0]) rfl ⟨rfl, by repeat (first | exact Keeps.refl _ _ | with_reducible refine Keeps.drew ?_ | with_reducible refine Keeps.alloc ?_ _ | refine Keeps.setCell ?_ (.inr (Nat.le_refl _)) _)⟩
def zblk : Obj := .cells #[.int .i64 0, .int .i64 0, .int .i64 0] 30
/-- the cells of a place, in every world that keeps the table -/
theorem TabAt.cellsK {w : World} {tb : Nat} {E : TypeId} {keys : Int} {T : List Spc} (h : TabAt w tb E keys T) {i : Nat} {s : Spc} (hs : T[i]? = some s) {w' : World} (hk : Keeps Nil w w') :
    w'.cell? ⟨tb, 1 + i * 3, none⟩ = some (.int .i64 s.id) ∧ w'.cell? ⟨tb, 1 + i * 3 + 1, none⟩ = some (.int .i64 s.base) ∧ w'.cell? ⟨tb, 1 + i * 3 + 2, none⟩ = some (.int .i64 s.size) := (h.keeps hk (fun h => h)).cells hs
set_option maxHeartbeats 2000000 in
theorem find_none {w : World} {tb i : Nat} {E : TypeId} {keys : Int} {T : List Spc} (h : TabAt w tb E keys T) (hl : i < 16) (hs : T[i]? = some sp0) :
    Calls Try.prog 19 #[.pointer (some ⟨tb, 0, none⟩), .int .i64 ((i : Int) + 1)] w fun e w' => e = .returned (.tuple #[spV sp0, .int .i64 140]) ∧ Keeps Nil w w' := by
  have h1 : ¬ (i : Int) + 1 < 1 := by omega
  have h2 : ¬ 16 < (i : Int) + 1 := by omega
  have h3 : wrap64 ((i : Int) + 1 - 1) = (i : Int) := by rw [show (i : Int) + 1 - 1 = i by omega]; unfold wrap64; omega
  obtain ⟨c0, c1, c2⟩ := h.cellsK hs ((Keeps.refl Nil w).alloc zblk)
  simp only [zblk, sp0] at c0 c1 c2
  have h4 : (0 : Int) ≤ i := by omega
  have h5 : (i : Int) < 16 := by omega
  clear h hs
  go_enter Try.func19, Try.ntmps19
  go_wp2_with fail
  exact bodyPost_ret (v := .tuple #[spV sp0, .int .i64 140]) (by simp [results, Try.results19, go_sem, spV, sp0]) rfl ⟨rfl, by repeat (first | exact Keeps.refl _ _ | with_reducible refine Keeps.drew ?_ | with_reducible refine Keeps.alloc ?_ _ | refine Keeps.setCell ?_ (.inr (Nat.le_refl _)) _)⟩
set_option maxHeartbeats 2000000 in
theorem find_in {w : World} {tb i : Nat} {E : TypeId} {keys b z : Int} {T : List Spc} (h : TabAt w tb E keys T) (hl : i < 16) (hs : T[i]? = some ⟨(i : Int) + 1, b, z⟩) :
    Calls Try.prog 19 #[.pointer (some ⟨tb, 0, none⟩), .int .i64 ((i : Int) + 1)] w fun e w' => e = .returned (.tuple #[spV ⟨(i : Int) + 1, b, z⟩, .int .i64 0]) ∧ Keeps Nil w w' := by
  have h1 : ¬ (i : Int) + 1 < 1 := by omega
  have h2 : ¬ 16 < (i : Int) + 1 := by omega
  have h3 : wrap64 ((i : Int) + 1 - 1) = (i : Int) := by rw [show (i : Int) + 1 - 1 = i by omega]; unfold wrap64; omega
  obtain ⟨c0, c1, c2⟩ := h.cellsK hs ((Keeps.refl Nil w).alloc zblk)
  simp only [zblk] at c0 c1 c2
  have h4 : (0 : Int) ≤ i := by omega
  have h5 : (i : Int) < 16 := by omega
  have h6 : ¬ (i : Int) + 1 = 0 := by omega
  clear h hs
  go_enter Try.func19, Try.ntmps19
  go_wp2_with fail
  exact bodyPost_ret (v := .tuple #[spV ⟨(i : Int) + 1, b, z⟩, .int .i64 0]) (by simp [results, Try.results19, go_sem, spV]) rfl ⟨rfl, by repeat (first | exact Keeps.refl _ _ | with_reducible refine Keeps.drew ?_ | with_reducible refine Keeps.alloc ?_ _ | refine Keeps.setCell ?_ (.inr (Nat.le_refl _)) _)⟩
end Go.Proofs.Ytmdgbcbnciaikaa
