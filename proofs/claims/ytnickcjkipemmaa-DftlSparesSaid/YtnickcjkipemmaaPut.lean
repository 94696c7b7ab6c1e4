/- walks of New, Put -/
import Derived.Test.YtnickcjkipemmaaGet
import Derived.BigRegion
namespace Go.Proofs.Ytnickcjkipemmaa
open Go.RowKit

attribute [local go_sem ↓] Go.wp_at_zero Go.wp_at_succ

def box3 (e : Ent) : Obj := .cells #[.int .i64 e.key, .int .u64 e.val, .bool e.dirty] 32
def zbox : Obj := .cells #[.int .i64 0, .int .u64 0, .bool false] 32

theorem put_fin {w w1 : World} {cb mb rb : Nat} {most : Int} {O : Nat → Prop} {N : List Node} {s : Node} (hL : Lru w1 cb mb most (s :: N)) {e : Ent} (he : e.key = s.2.key) {d : Bool} (hd : d = (s.2.dirty || e.dirty)) (hr : ¬ own cb mb (s :: N) rb) (hrb : w.heap.size ≤ rb) (hK : Keeps O w w1) (hO : ∀ k, own cb mb (s :: N) k → O k) {u0 u1 u2 : Value} :
    let w' := ((((w1.setCell ⟨s.1, 1, none⟩ (.int .u64 e.val)).setCell ⟨s.1, 2, none⟩ (.bool d)).setCell ⟨rb, 0, none⟩ u0).setCell ⟨rb, 1, none⟩ u1).setCell ⟨rb, 2, none⟩ u2
    Lru w'.drew cb mb most ((s.1, ⟨e.key, e.val, s.2.dirty || e.dirty⟩) :: N) ∧ Keeps O w w'.drew := by
  subst hd
  have en := hL.ent s (by simp)
  have n12 : (⟨s.1, 1, none⟩ : Addr) ≠ ⟨s.1, 2, none⟩ := fun h => by cases h
  have n01 : (⟨s.1, 0, none⟩ : Addr) ≠ ⟨s.1, 1, none⟩ := fun h => by cases h
  have n02 : (⟨s.1, 0, none⟩ : Addr) ≠ ⟨s.1, 2, none⟩ := fun h => by cases h
  have hset := ((Sets.setCell w1 s.1 1 (.int .u64 e.val)).mono (U := fun b o => b = s.1 ∧ o < 3) (fun b o h => ⟨h.1, by omega⟩)).trans ((Sets.setCell _ s.1 2 (.bool (s.2.dirty || e.dirty))).mono (fun b o h => ⟨h.1, by omega⟩))
  have hL2 := Lru.edit (A := []) hL (e := ⟨e.key, e.val, s.2.dirty || e.dirty⟩) he hset (fun _ _ h => h) ⟨by
    rw [World.cell?_setCell_other _ _ _ _ n02.symm, World.cell?_setCell_other _ _ _ _ n01.symm, he]; exact en.key, by
    rw [World.cell?_setCell_other _ _ _ _ n12.symm]; exact World.cell?_setCell_same _ _ _ en.val, by
    refine World.cell?_setCell_same _ _ _ (u := .bool s.2.dirty) ?_
    rw [World.cell?_setCell_other _ _ _ _ n12]; exact en.dirty⟩
  have hsO : O s.1 := hO _ (.inr (.inr (by simp)))
  refine ⟨hL2.keeps ((((Keeps.refl (· = rb) _).setCell (.inl rfl) _).setCell (.inl rfl) _).setCell (.inl rfl) _).drew (fun k hk e2 => hr ?_), ?_⟩
  · rw [← e2]
    rcases hk with h | h | h
    · exact .inl h
    · exact .inr (.inl h)
    · exact .inr (.inr (by simpa using h))
  · exact (((((hK.setCell (.inl hsO) _).setCell (.inl hsO) _).setCell (.inr hrb) _).setCell (.inr hrb) _).setCell (.inr hrb) _).drew

set_option maxHeartbeats 2000000 in
theorem put_in {w : World} {cb mb : Nat} {most : Int} {A B : List Node} {s : Node} (h : Lru w cb mb most (A ++ s :: B)) (e : Ent) (he : e.key = s.2.key) :
    Calls Try.prog 15 #[.pointer (some ⟨cb, 0, none⟩), .agg #[.int .i64 e.key, .int .u64 e.val, .bool e.dirty]] w fun en w' => en = .returned (.tuple #[entV ent0, .bool false]) ∧ Lru w' cb mb most ((s.1, ⟨e.key, e.val, s.2.dirty || e.dirty⟩) :: (A ++ B)) ∧ Keeps (own cb mb (A ++ s :: B)) w w' := by
  have hr : ¬ own cb mb (A ++ s :: B) w.heap.size := fun ho => by have := h.toLruB.lt ho; omega
  have hr1 : ¬ own cb mb (A ++ s :: B) (w.heap.size + 1) := fun ho => by have := h.toLruB.lt ho; omega
  have hk0 := ((Keeps.refl (own cb mb (A ++ s :: B)) w).alloc (.cells #[.int .i64 e.key, .int .u64 e.val, .bool e.dirty] 32)).alloc (.cells #[.int .i64 0, .int .u64 0, .bool false] 32)
  have hC0 := find_in (h.keeps (((Keeps.refl Nil w).alloc (.cells #[.int .i64 e.key, .int .u64 e.val, .bool e.dirty] 32)).alloc (.cells #[.int .i64 0, .int .u64 0, .bool false] 32)) (fun _ _ h => h))
  rw [← he] at hC0
  have hC := Lib.hid hC0
  have hb0 := Lib.hid (heap_alloc_old (o' := (.cells #[.int .i64 0, .int .u64 0, .bool false] 32)) (heap_alloc_new w (.cells #[.int .i64 e.key, .int .u64 e.val, .bool e.dirty] 32)))
  have hb1 := Lib.hid (heap_alloc_new (w.alloc (.cells #[.int .i64 e.key, .int .u64 e.val, .bool e.dirty] 32)) (.cells #[.int .i64 0, .int .u64 0, .bool false] 32))
  have hr' := Lib.hid hr
  have hr1' := Lib.hid hr1
  have hk0' := Lib.hid hk0
  have he' := Lib.hid he
  clear h hr hr1 hC0 hk0 he
  have hp : (A ++ s :: B).Perm (s :: (A ++ B)) := List.perm_middle
  go_enter Try.func15, Try.ntmps15
  go_wp2_with fail
  refine (hC.out).mono ?_
  rintro e1 w1 ⟨rfl, hL, hK, hZ⟩
  have hh1 := hK.heap hb0.out hr'.out
  have r1 : w1.cell? ⟨w.heap.size, 1, none⟩ = some (.int .u64 e.val) := cell_of_heap hh1 1
  have r2 : w1.cell? ⟨w.heap.size, 2, none⟩ = some (.bool e.dirty) := cell_of_heap hh1 2
  have en := hL.ent s (by simp)
  have s1 : w1.cell? ⟨s.1, 1, none⟩ = some (.int .u64 s.2.val) := en.val
  have s2 : w1.cell? ⟨s.1, 2, none⟩ = some (.bool s.2.dirty) := en.dirty
  have f1 := hL.fro s.1 (.inr (by simp)) 1
  have f2 := hL.fro s.1 (.inr (by simp)) 2
  have hL' := Lib.hid hL
  have hK' := Lib.hid (hk0'.out.trans hK)
  have hh2 := hK.heap hb1.out (by simpa using hr1'.out)
  have hsz : (w.alloc (.cells #[.int .i64 e.key, .int .u64 e.val, .bool e.dirty] 32)).heap.size = w.heap.size + 1 := by simp
  rw [hsz] at hh2
  have hne : s.1 ≠ w.heap.size + 1 := fun e => hr1'.out (by rw [← e]; exact .inr (.inr (by simp)))
  have q : ∀ (x y : Value) (j : Nat) (v : Value), w1.cell? ⟨w.heap.size + 1, j, none⟩ = some v → ((w1.setCell ⟨s.1, 1, none⟩ x).setCell ⟨s.1, 2, none⟩ y).cell? ⟨w.heap.size + 1, j, none⟩ = some v := fun x y j v h => by
    rw [World.cell?_setCell_far _ _ _ _ hne, World.cell?_setCell_far _ _ _ _ hne]; exact h
  have z0 := q (.int .u64 e.val) (.bool (s.2.dirty || e.dirty)) 0 _ (cell_of_heap hh2 0)
  have z1 := q (.int .u64 e.val) (.bool (s.2.dirty || e.dirty)) 1 _ (cell_of_heap hh2 1)
  have z2 := q (.int .u64 e.val) (.bool (s.2.dirty || e.dirty)) 2 _ (cell_of_heap hh2 2)
  have g0 := frozen_of_heap hh2 0
  have g1 := frozen_of_heap hh2 1
  have g2 := frozen_of_heap hh2 2
  have hne' := Lib.hid hne
  clear hL hK hZ hC hh1 en hh2 hsz hne q
  cases hd : s.2.dirty
  · rw [hd] at s2
    simp only [hd, Bool.false_or] at z0 z1 z2
    have hd' := Lib.hid hd
    clear hd
    go_wp2_with fail
    go_region
    go_wp2_with fail
    have y := cells3 _ (w.heap.size + 1) (v0 := .int .i64 0) (v1 := .int .u64 0) (v2 := .bool false) z0 z1 z2
    have hfin := put_fin (rb := w.heap.size + 1) (d := e.dirty) hL'.out he'.out (by rw [hd'.out]; rfl) (fun ho => hr1'.out ((own_perm hp).2 ho)) (by omega) hK'.out (fun k hk => (own_perm hp).2 hk) (u0 := .int .i64 0) (u1 := .int .u64 0) (u2 := .bool false)
    exact bodyPost_ret (v := .tuple #[entV ent0, .bool false]) (by simp [results, Try.results15, go_sem, entV, ent0, y.1, y.2.1, y.2.2]) rfl ⟨rfl, hfin⟩
  · rw [hd] at s2
    simp only [hd, Bool.true_or] at z0 z1 z2
    have hd' := Lib.hid hd
    clear hd
    go_wp2_with fail
    go_region
    go_wp2_with fail
    have y := cells3 _ (w.heap.size + 1) (v0 := .int .i64 0) (v1 := .int .u64 0) (v2 := .bool false) z0 z1 z2
    have hfin := put_fin (rb := w.heap.size + 1) (d := true) hL'.out he'.out (by rw [hd'.out]; rfl) (fun ho => hr1'.out ((own_perm hp).2 ho)) (by omega) hK'.out (fun k hk => (own_perm hp).2 hk) (u0 := .int .i64 0) (u1 := .int .u64 0) (u2 := .bool false)
    exact bodyPost_ret (v := .tuple #[entV ent0, .bool false]) (by simp [results, Try.results15, go_sem, entV, ent0, y.1, y.2.1, y.2.2]) rfl ⟨rfl, hfin⟩
end Go.Proofs.Ytnickcjkipemmaa
