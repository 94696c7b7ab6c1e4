/- a table of namespaces in memory -/
import Derived.Test.YtmdgbcbnciaikaaMath
import Derived.Test.YtmdgbcbnciaikaaRecs
namespace Go.Proofs.Ytmdgbcbnciaikaa
open Go.RowKit

def spC (s : Spc) : List Value := [.int .i64 s.id, .int .i64 s.base, .int .i64 s.size]
theorem spC_len (s : Spc) : (spC s).length = 3 := rfl
theorem spC_one (L : List Spc) : ∀ u ∈ recs spC L, u.oneCell' = true := by
  intro u hu
  obtain ⟨x, _, hx⟩ := List.mem_flatMap.1 hu
  simp [spC] at hx
  rcases hx with rfl | rfl | rfl <;> rfl
/-- the table at tb: so many keys, the places T -/
def TabAt (w : World) (tb : Nat) (E : TypeId) (keys : Int) (T : List Spc) : Prop := w.heap[tb]? = some (.cells (Value.int .i64 keys :: recs spC T).toArray E)
theorem TabAt.keeps {S : Nat → Prop} {w w' : World} {tb : Nat} {E : TypeId} {keys : Int} {T : List Spc} (h : TabAt w tb E keys T) (hk : Keeps S w w') (hn : ¬ S tb) : TabAt w' tb E keys T := hk.heap h hn
theorem TabAt.key {w : World} {tb : Nat} {E : TypeId} {keys : Int} {T : List Spc} (h : TabAt w tb E keys T) : w.cell? ⟨tb, 0, none⟩ = some (.int .i64 keys) := by
  rw [cell_of_heap h]; rfl
theorem TabAt.cells {w : World} {tb : Nat} {E : TypeId} {keys : Int} {T : List Spc} (h : TabAt w tb E keys T) {i : Nat} {s : Spc} (hs : T[i]? = some s) :
    w.cell? ⟨tb, 1 + i * 3, none⟩ = some (.int .i64 s.id) ∧ w.cell? ⟨tb, 1 + i * 3 + 1, none⟩ = some (.int .i64 s.base) ∧ w.cell? ⟨tb, 1 + i * 3 + 2, none⟩ = some (.int .i64 s.size) := by
  have hg := fun j v (hj : j < 3) (hv : (spC s)[j]? = some v) => (by
    have h2 := recs_get spC_len hj hs hv
    rw [cell_of_heap h, show 1 + i * 3 + j = (i * 3 + j) + 1 by omega]
    simpa using h2 : w.cell? ⟨tb, 1 + i * 3 + j, none⟩ = some v)
  exact ⟨hg 0 _ (by decide) rfl, hg 1 _ (by decide) rfl, hg 2 _ (by decide) rfl⟩
theorem TabAt.frozen {w : World} {tb : Nat} {E : TypeId} {keys : Int} {T : List Spc} (h : TabAt w tb E keys T) (o : Nat) : w.frozen? ⟨tb, o, none⟩ = false := frozen_of_heap h o
/-- a place is written -/
theorem TabAt.set {w : World} {tb : Nat} {E : TypeId} {keys : Int} {T : List Spc} (h : TabAt w tb E keys T) {i : Nat} {s : Spc} (hs : T[i]? = some s) (y : Spc) :
    TabAt (((w.setCell ⟨tb, 1 + i * 3, none⟩ (.int .i64 y.id)).setCell ⟨tb, 1 + i * 3 + 1, none⟩ (.int .i64 y.base)).setCell ⟨tb, 1 + i * 3 + 2, none⟩ (.int .i64 y.size)) tb E keys (T.set i y) := by
  have hj := (List.getElem?_eq_some_iff.1 hs).1
  unfold TabAt
  rw [heap_setCell_same (heap_setCell_same (heap_setCell_same h (1 + i * 3) (.int .i64 y.id)) (1 + i * 3 + 1) (.int .i64 y.base)) (1 + i * 3 + 2) (.int .i64 y.size)]
  congr 2
  apply Array.toList_inj.1
  simp only [Array.toList_setIfInBounds]
  have e1 := recs_set (enc := spC) (k := 3) spC_len (j := i) (i := 0) (x := s) (y := ⟨y.id, s.base, s.size⟩) (v := .int .i64 y.id) (by decide) hs rfl
  have e2 := recs_set (enc := spC) (k := 3) spC_len (L := T.set i ⟨y.id, s.base, s.size⟩) (j := i) (i := 1) (x := ⟨y.id, s.base, s.size⟩) (y := ⟨y.id, y.base, s.size⟩) (v := .int .i64 y.base) (by decide) (by simp [hj]) rfl
  have e3 := recs_set (enc := spC) (k := 3) spC_len (L := T.set i ⟨y.id, y.base, s.size⟩) (j := i) (i := 2) (x := ⟨y.id, y.base, s.size⟩) (y := y) (v := .int .i64 y.size) (by decide) (by simp [hj]) rfl
  rw [List.set_set] at e2 e3
  rw [show 1 + i * 3 = (i * 3 + 0) + 1 by omega, show (i * 3 + 0) + 1 + 1 = (i * 3 + 1) + 1 by omega, show (i * 3 + 0) + 1 + 2 = (i * 3 + 2) + 1 by omega]
  simp only [List.set_cons_succ]
  rw [Nat.add_zero] at e1
  rw [e1, e2, e3]
end Go.Proofs.Ytmdgbcbnciaikaa
