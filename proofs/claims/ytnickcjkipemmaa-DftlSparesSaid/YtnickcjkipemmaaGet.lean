/- walks of Get, Len, New, Drop -/
import Derived.Test.YtnickcjkipemmaaFind
namespace Go.Proofs.Ytnickcjkipemmaa
open Go.RowKit

attribute [local go_sem ↓] Go.wp_at_zero Go.wp_at_succ

set_option maxHeartbeats 1000000 in
theorem get_in {w : World} {cb mb : Nat} {most : Int} {A B : List Node} {s : Node} (h : Lru w cb mb most (A ++ s :: B)) :
    Calls Try.prog 16 #[.pointer (some ⟨cb, 0, none⟩), .int .i64 s.2.key] w fun e w' => e = .returned (.tuple #[.int .u64 s.2.val, .bool true]) ∧ Lru w' cb mb most (s :: (A ++ B)) ∧ Keeps (own cb mb (A ++ s :: B)) w w' ∧ w'.heap.size = w.heap.size := by
  have hC := Lib.hid (find_in h)
  clear h
  go_enter Try.func16, Try.ntmps16
  go_wp2_with fail
  refine (hC.out).mono ?_
  rintro e w1 ⟨rfl, hL, hK, hZ⟩
  have hv := (hL.ent s (by simp)).val
  have hL' := Lib.hid hL
  have hK' := Lib.hid hK
  have hZ' := Lib.hid hZ
  clear hL hK hZ hC
  go_wp2_with fail
  go_ret2
  exact ⟨rfl, hL'.out, hK'.out, hZ'.out⟩

set_option maxHeartbeats 1000000 in
theorem get_out {w : World} {cb mb : Nat} {most : Int} {S : List Node} (h : Lru w cb mb most S) {k : Int} (hk : ∀ s ∈ S, s.2.key ≠ k) :
    Calls Try.prog 16 #[.pointer (some ⟨cb, 0, none⟩), .int .i64 k] w fun e w' => e = .returned (.tuple #[.int .u64 0, .bool false]) ∧ w = w' := by
  have hC := Lib.hid (find_out h hk)
  clear h hk
  go_enter Try.func16, Try.ntmps16
  go_wp2_with fail
  refine (hC.out).mono ?_
  rintro e w1 ⟨rfl, rfl⟩
  go_wp2_with fail
  go_ret2
  exact ⟨rfl, rfl⟩

set_option maxHeartbeats 1000000 in
theorem len_any {w : World} {cb mb : Nat} {most : Int} {S : List Node} (h : LruB w cb mb most S) :
    Calls Try.prog 17 #[.pointer (some ⟨cb, 0, none⟩)] w fun e w' => e = .returned (.int .i64 (S.length : Nat)) ∧ w = w' := by
  obtain ⟨f, hm, _, hl, _⟩ := h.map
  have hm' := Lib.hid hm
  have hat := h.at_
  have hl' := Lib.hid hl
  clear hm h hl
  go_enter Try.func17, Try.ntmps17
  go_wp2_with (at_len; refine wpList_mlen _ rfl _ 84 rfl 3 85 Try.underlying84 mb f rfl (by exact hm'.out) ?_; rw [hl'.out])
  go_ret
  exact ⟨rfl, rfl⟩

def entV (e : Ent) : Value := .agg #[.int .i64 e.key, .int .u64 e.val, .bool e.dirty]
def ent0 : Ent := ⟨0, 0, false⟩
theorem Try.info32 : (Try.prog.info? 32).map (fun i => (i.zero, i.size, i.bytes)) = some (some (.agg #[.int .i64 0, .int .u64 0, .bool false]), 3, 24) := by kernel_rfl

theorem Lru.seq_ne {w : World} {cb mb : Nat} {most : Int} {S N : List Node} (h : LruB w cb mb most S) (hN : ∀ x ∈ N, x ∈ S) : ∀ p ∈ (cb, 2) :: N.map lk ++ [(cb, 2)], ¬ p.1 = mb := by
  intro p hp
  simp only [List.mem_append, List.mem_cons, List.not_mem_nil, or_false, List.mem_map] at hp
  rcases hp with (rfl | ⟨s, hs, rfl⟩) | rfl
  · exact h.ne_map
  · exact fun e => (h.cb_ne (hN s hs)).2.1 e.symm
  · exact h.ne_map
theorem lk_sub {cb : Nat} {s : Node} {N : List Node} {u : Lk} (hu : u ∈ (cb, 2) :: N.map lk) : u ∈ (cb, 2) :: (s :: N).map lk := by
  simp only [List.map_cons, List.mem_cons] at hu ⊢
  rcases hu with h | h
  · exact .inl h
  · exact .inr (.inr h)

theorem cells3 (w : World) (g : Nat) {v0 v1 v2 x0 x1 x2 : Value} (h0 : w.cell? ⟨g, 0, none⟩ = some x0) (h1 : w.cell? ⟨g, 1, none⟩ = some x1) (h2 : w.cell? ⟨g, 2, none⟩ = some x2) :
    (((w.setCell ⟨g, 0, none⟩ v0).setCell ⟨g, 1, none⟩ v1).setCell ⟨g, 2, none⟩ v2).cell? ⟨g, 0, none⟩ = some v0 ∧ (((w.setCell ⟨g, 0, none⟩ v0).setCell ⟨g, 1, none⟩ v1).setCell ⟨g, 2, none⟩ v2).cell? ⟨g, 1, none⟩ = some v1 ∧
      (((w.setCell ⟨g, 0, none⟩ v0).setCell ⟨g, 1, none⟩ v1).setCell ⟨g, 2, none⟩ v2).cell? ⟨g, 2, none⟩ = some v2 := by
  have n01 : (⟨g, 0, none⟩ : Addr) ≠ ⟨g, 1, none⟩ := fun h => by cases h
  have n02 : (⟨g, 0, none⟩ : Addr) ≠ ⟨g, 2, none⟩ := fun h => by cases h
  have n12 : (⟨g, 1, none⟩ : Addr) ≠ ⟨g, 2, none⟩ := fun h => by cases h
  refine ⟨?_, ?_, ?_⟩
  · rw [World.cell?_setCell_other _ _ _ _ n02.symm, World.cell?_setCell_other _ _ _ _ n01.symm]
    exact World.cell?_setCell_same _ _ _ h0
  · rw [World.cell?_setCell_other _ _ _ _ n12.symm]
    refine World.cell?_setCell_same _ _ _ (u := x1) ?_
    rw [World.cell?_setCell_other _ _ _ _ n01]; exact h1
  · refine World.cell?_setCell_same _ _ _ (u := x2) ?_
    rw [World.cell?_setCell_other _ _ _ _ n12, World.cell?_setCell_other _ _ _ _ n02]; exact h2

set_option maxHeartbeats 1000000 in
theorem drop_out {w : World} {cb mb : Nat} {most : Int} {S : List Node} (h : Lru w cb mb most S) {k : Int} (hk : ∀ s ∈ S, s.2.key ≠ k) :
    Calls Try.prog 18 #[.pointer (some ⟨cb, 0, none⟩), .int .i64 k] w fun e w' => e = .returned (.tuple #[entV ent0, .bool false]) ∧ Keeps Nil w w' := by
  have hC := Lib.hid (find_out (h.keeps ((Keeps.refl Nil w).alloc (.cells #[.int .i64 0, .int .u64 0, .bool false] 32)) (fun _ _ h => h)) hk)
  clear h hk
  go_enter Try.func18, Try.ntmps18
  go_wp2_with fail
  refine (hC.out).mono ?_
  rintro e w1 ⟨rfl, rfl⟩
  go_wp2_with fail
  exact bodyPost_ret (v := .tuple #[entV ent0, .bool false]) (by simp [results, Try.results18, go_sem, entV, ent0]) rfl ⟨rfl, (Keeps.refl _ _).alloc _⟩

set_option maxHeartbeats 1000000 in
theorem drop_in {w : World} {cb mb : Nat} {most : Int} {A B : List Node} {s : Node} (h : Lru w cb mb most (A ++ s :: B)) :
    Calls Try.prog 18 #[.pointer (some ⟨cb, 0, none⟩), .int .i64 s.2.key] w fun e w' => e = .returned (.tuple #[entV s.2, .bool true]) ∧ Lru w' cb mb most (A ++ B) ∧ Keeps (own cb mb (A ++ s :: B)) w w' := by
  have hr : ¬ own cb mb (A ++ s :: B) w.heap.size := fun ho => by have := h.toLruB.lt ho; omega
  have hC := Lib.hid (find_in (h.keeps ((Keeps.refl Nil w).alloc (.cells #[.int .i64 0, .int .u64 0, .bool false] 32)) (fun _ _ h => h)))
  have hr' := Lib.hid hr
  clear h hr
  have hp : (A ++ s :: B).Perm (s :: (A ++ B)) := List.perm_middle
  go_enter Try.func18, Try.ntmps18
  go_wp2_with fail
  refine (hC.out).mono ?_
  rintro e w1 ⟨rfl, hL, hK, hZ⟩
  have hh1 := Lib.hid (hK.heap (heap_alloc_new w (.cells #[.int .i64 0, .int .u64 0, .bool false] 32)) hr'.out)
  have hK' := Lib.hid (((Keeps.refl (own cb mb (A ++ s :: B)) w).alloc (.cells #[.int .i64 0, .int .u64 0, .bool false] 32)).trans hK)
  clear hK hZ hC
  obtain ⟨u, v, hu, hv, c1, c2, ⟨yu, cu⟩, ⟨yv, cv⟩, hne, hus, hvs, hset, hseq, hB⟩ := lru_out (A := []) (B := A ++ B) hL
  have hu2 := lk_sub (s := s) (N := A ++ B) hu
  have hv2 := lk_sub (s := s) (N := A ++ B) hv
  have fu := Lru.fro' hL hu2 (u.2 + 4)
  have fv := Lru.fro' hL hv2 (v.2 + 3)
  have hK1 := Links.keeps (mb := mb) hset (tie_links hu2 hv2)
  have hro : ¬ own cb mb (s :: (A ++ B)) w.heap.size := fun ho => hr'.out ((own_perm hp).2 ho)
  have hh2 := Lib.hid (hK1.heap hh1.out hro)
  have hK1' := Lib.hid (hK'.out.trans (hK1.mono (fun k hk => (own_perm hp).2 hk)))
  have hC2 := Lib.hid (out_any s.1 0 u.1 u.2 v.1 v.2 w1 c1 c2 yu yv cu cv hne hus hvs fu fv)
  have hseq' := Lib.hid hseq
  have hB' := Lib.hid hB
  clear hset hB hseq c1 c2 cu cv fu fv hne hus hvs hK1 hu2 hv2 hL hro
  go_wp2_with fail
  refine (hC2.out).mono ?_
  rintro e w2 ⟨rfl, hw2⟩
  rw [← hw2] at hh2 hK1' hseq' hB'
  clear hw2 hC2
  have hat := hB'.out.at_
  obtain ⟨f, hm, hof⟩ := hB'.out.map
  have hm' := Lib.hid hm
  have hof' := Lib.hid hof
  clear hm hof
  go_wp2_with (at_delete; refine wpList_del _ rfl _ _ 84 3 rfl 85 Try.underlying84 Try.underlying3 mb f rfl (by exact hm'.out) _ rfl ?_; intro w3 hm3 hk3 hz3; have hB3 := Lib.hid (hB'.out.del hof'.out hm3 hk3); have hs3 := Lib.hid (Seq.keeps hk3 hseq'.out (Lru.seq_ne hB'.out (fun x hx => List.mem_cons_of_mem _ hx))); have hsne := (hB'.out.cb_ne (s := s) (by simp)).2.1; have he3 := (hB'.out.ent s (by simp)).keeps hk3 (fun e => hsne e.symm); have hrm : ¬ w.heap.size = mb := fun e => hr'.out (.inr (.inl e)); have hh3 := hk3.heap hh2.out hrm; have hk3' := Lib.hid (hk3.mono (T := own cb mb (A ++ s :: B)) (fun k hk => .inr (.inl hk))); have r0 : w3.cell? ⟨w.heap.size, 0, none⟩ = some (.int .i64 0) := cell_of_heap hh3 0; have r1 : w3.cell? ⟨w.heap.size, 1, none⟩ = some (.int .u64 0) := cell_of_heap hh3 1; have r2 : w3.cell? ⟨w.heap.size, 2, none⟩ = some (.bool false) := cell_of_heap hh3 2; have g0 := frozen_of_heap hh3 0; have g1 := frozen_of_heap hh3 1; have g2 := frozen_of_heap hh3 2; have e0 : w3.cell? ⟨s.1, 0, none⟩ = some (.int .i64 s.2.key) := he3.key; have e1 : w3.cell? ⟨s.1, 1, none⟩ = some (.int .u64 s.2.val) := he3.val; have e2 : w3.cell? ⟨s.1, 2, none⟩ = some (.bool s.2.dirty) := he3.dirty; have hh3' := Lib.hid hh3; clear hm3 hk3 hz3 hsne hrm hh3 he3 hat)
  have q := cells3 w3 w.heap.size (v0 := .int .i64 s.2.key) (v1 := .int .u64 s.2.val) (v2 := .bool s.2.dirty) r0 r1 r2
  refine bodyPost_ret (v := .tuple #[entV s.2, .bool true]) (by simp [results, Try.results18, go_sem, entV, q.1, q.2.1, q.2.2]) rfl ⟨rfl, ?_, ?_⟩
  · refine (Lru.mk hB3.out hs3.out).keeps ((((Keeps.refl (· = w.heap.size) w3).setCell (.inl rfl) _).setCell (.inl rfl) _).setCell (.inl rfl) _) (fun k hk e => hr'.out ?_)
    rw [← e]
    rcases hk with h | h | h
    · exact .inl h
    · exact .inr (.inl h)
    · refine .inr (.inr ?_)
      rw [List.map_append, List.mem_append] at h ⊢
      rcases h with h | h
      · exact .inl h
      · exact .inr (List.mem_cons_of_mem _ h)
  · exact ((((hK1'.out.trans hk3'.out).setCell (.inr (Nat.le_refl _)) _).setCell (.inr (Nat.le_refl _)) _).setCell (.inr (Nat.le_refl _)) _)
end Go.Proofs.Ytnickcjkipemmaa
