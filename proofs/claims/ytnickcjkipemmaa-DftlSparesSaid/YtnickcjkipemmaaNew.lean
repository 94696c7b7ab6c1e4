/- walks of New, Put of a new key -/
import Derived.Test.YtnickcjkipemmaaPut
import Derived.BigRegion
import Derived.Outline
import Derived.StillTailTactics
namespace Go.Proofs.Ytnickcjkipemmaa
open Go.RowKit

attribute [local go_sem ↓] Go.wp_at_zero Go.wp_at_succ

def ringO (most : Int) (mb : Nat) (r : Value) : Obj := .cells #[.int .i64 most, .map (some mb), .int .i64 0, .int .u64 0, .bool false, r, r] 89

theorem lru_new (w : World) (most : Int) : Lru ((w.alloc (.map #[] 0)).alloc (.cells #[.int .i64 most, .map (some w.heap.size), .int .i64 0, .int .u64 0, .bool false, .pointer (some ⟨w.heap.size + 1, 2, none⟩), .pointer (some ⟨w.heap.size + 1, 2, none⟩)] 89)) (w.heap.size + 1) w.heap.size most [] := by
  have hz : (w.alloc (.map #[] 0)).heap.size = w.heap.size + 1 := by simp
  have hh : ((w.alloc (.map #[] 0)).alloc (.cells #[.int .i64 most, .map (some w.heap.size), .int .i64 0, .int .u64 0, .bool false, .pointer (some ⟨w.heap.size + 1, 2, none⟩), .pointer (some ⟨w.heap.size + 1, 2, none⟩)] 89)).heap[w.heap.size + 1]? = some (.cells #[.int .i64 most, .map (some w.heap.size), .int .i64 0, .int .u64 0, .bool false, .pointer (some ⟨w.heap.size + 1, 2, none⟩), .pointer (some ⟨w.heap.size + 1, 2, none⟩)] 89) := by
    rw [← hz]; exact heap_alloc_new _ _
  have hm : MapAt ((w.alloc (.map #[] 0)).alloc (.cells #[.int .i64 most, .map (some w.heap.size), .int .i64 0, .int .u64 0, .bool false, .pointer (some ⟨w.heap.size + 1, 2, none⟩), .pointer (some ⟨w.heap.size + 1, 2, none⟩)] 89)) w.heap.size [] :=
    (MapAt.made w).keeps ((Keeps.refl Nil _).alloc _) (fun h => h)
  refine ⟨⟨cell_of_heap hh 0, cell_of_heap hh 1, ⟨[], hm, MapOf.nil⟩, by simp, by simp, by simp, fun k hk => ?_⟩, ⟨⟨cell_of_heap hh 6, cell_of_heap hh 5⟩, trivial⟩⟩
  rcases hk with rfl | h
  · exact ⟨_, _, hh⟩
  · cases h

set_option maxHeartbeats 1000000 in
theorem new_any (most : Int) (w : World) (hm : 1 ≤ most) :
    Calls Try.prog 14 #[.int .i64 most] w fun e w' => e = .returned (.tuple #[.pointer (some ⟨w.heap.size + 1, 0, none⟩), .int .i64 0]) ∧ Lru w' (w.heap.size + 1) w.heap.size most [] ∧ Keeps Nil w w' ∧ w'.heap.size = w.heap.size + 2 := by
  have hd : decide (most < 1) = false := decide_eq_false (by omega)
  have hL := Lib.hid (lru_new w most)
  have hmm := @run_makeMap Try.prog
  go_enter Try.func14, Try.ntmps14
  go_wp2_with fail
  go_region
  go_wp2_with fail
  go_ret2
  exact ⟨rfl, hL.out.keeps (Keeps.refl Nil _).drew (fun _ _ h => h), (((Keeps.refl Nil w).alloc _).alloc _).drew, by simp⟩

set_option maxHeartbeats 1000000 in
theorem new_bad (most : Int) (w : World) (hm : most < 1) : Calls Try.prog 14 #[.int .i64 most] w fun e w' => e = .returned (.tuple #[.pointer none, .int .i64 1]) ∧ w = w' := by
  have hd : decide (most < 1) = true := decide_eq_true hm
  go_enter Try.func14, Try.ntmps14
  go_wp2_with fail
  go_ret2
  exact ⟨rfl, rfl⟩

/-- the world in which the map's entry is written -/
def putX (w : World) (e : Ent) : World := ((((w.alloc (.cells #[.int .i64 e.key, .int .u64 e.val, .bool e.dirty] 32)).alloc (.cells #[.int .i64 0, .int .u64 0, .bool false] 32)).alloc (.cells #[.int .i64 0, .int .u64 0, .bool false] 32)).alloc (.cells #[.int .i64 e.key, .int .u64 e.val, .bool e.dirty, .pointer none, .pointer none] 87)).drew.drew
theorem putX_keeps (w : World) (e : Ent) : Keeps Nil w (putX w e) := ((((((Keeps.refl Nil w).alloc _).alloc _).alloc _).alloc _).drew).drew
theorem putX_heap (w : World) (e : Ent) : (putX w e).heap.size = w.heap.size + 1 + 1 + 1 + 1 ∧ (putX w e).heap[w.heap.size + 1]? = some (.cells #[.int .i64 0, .int .u64 0, .bool false] 32) ∧
    (putX w e).heap[w.heap.size + 1 + 1]? = some (.cells #[.int .i64 0, .int .u64 0, .bool false] 32) ∧ (putX w e).heap[w.heap.size + 1 + 1 + 1]? = some (.cells #[.int .i64 e.key, .int .u64 e.val, .bool e.dirty, .pointer none, .pointer none] 87) := by
  have s1 : (w.alloc (.cells #[.int .i64 e.key, .int .u64 e.val, .bool e.dirty] 32)).heap.size = w.heap.size + 1 := by simp
  have s2 : ((w.alloc (.cells #[.int .i64 e.key, .int .u64 e.val, .bool e.dirty] 32)).alloc (.cells #[.int .i64 0, .int .u64 0, .bool false] 32)).heap.size = w.heap.size + 1 + 1 := by simp
  have s3 : (((w.alloc (.cells #[.int .i64 e.key, .int .u64 e.val, .bool e.dirty] 32)).alloc (.cells #[.int .i64 0, .int .u64 0, .bool false] 32)).alloc (.cells #[.int .i64 0, .int .u64 0, .bool false] 32)).heap.size = w.heap.size + 1 + 1 + 1 := by simp
  refine ⟨by unfold putX; simp, ?_, ?_, ?_⟩
  · show (World.alloc _ _).heap[_]? = _
    rw [← s1]
    exact heap_alloc_old (heap_alloc_old (heap_alloc_new _ _))
  · show (World.alloc _ _).heap[_]? = _
    rw [← s2]
    exact heap_alloc_old (heap_alloc_new _ _)
  · show (World.alloc _ _).heap[_]? = _
    rw [← s3]
    exact heap_alloc_new _ _

theorem put_mid {w w3 : World} {cb mb : Nat} {most : Int} {S : List Node} {e : Ent} {f : List (Int × Value)} (h : Lru w cb mb most S) (he : ∀ s ∈ S, s.2.key ≠ e.key) (hof : MapOf f S) (hm3 : MapAt w3 mb (mset e.key (.pointer (some ⟨w.heap.size + 1 + 1 + 1, 0, none⟩)) f)) (hk3 : Keeps (· = mb) (putX w e) w3) (hz : w3.heap.size = (putX w e).heap.size) :
    LruB w3 cb mb most ((w.heap.size + 1 + 1 + 1, e) :: S) ∧ Seq w3 ((cb, 2) :: S.map lk ++ [(cb, 2)]) ∧ (w3.cell? ⟨w.heap.size + 1 + 1 + 1, 3, none⟩).isSome = true ∧ (w3.cell? ⟨w.heap.size + 1 + 1 + 1, 4, none⟩).isSome = true ∧
      w3.heap[w.heap.size + 1]? = some (.cells #[.int .i64 0, .int .u64 0, .bool false] 32) ∧ w3.heap[w.heap.size + 1 + 1]? = some (.cells #[.int .i64 0, .int .u64 0, .bool false] 32) ∧ Keeps (own cb mb S) w w3 ∧ w3.heap.size = w.heap.size + 1 + 1 + 1 + 1 := by
  obtain ⟨x0, x1, x2, x3⟩ := putX_heap w e
  have hX := h.keeps (putX_keeps w e) (fun _ _ h => h)
  have hlt : ∀ k, own cb mb S k → k < w.heap.size := fun k hk => h.toLruB.lt hk
  have hmlt := hlt mb (.inr (.inl rfl))
  have hnode := hk3.heap x3 (show ¬ w.heap.size + 1 + 1 + 1 = mb by omega)
  have c := cell_of_heap hnode
  refine ⟨hX.toLruB.add hof hm3 hk3 he ⟨cell_of_heap x3 0, cell_of_heap x3 1, cell_of_heap x3 2⟩ (fun ho => by have := hlt _ ho; omega) ⟨_, _, x3⟩, Seq.keeps hk3 hX.seq (Lru.seq_ne hX.toLruB (fun x hx => hx)), by rw [c 3]; rfl, by rw [c 4]; rfl,
    hk3.heap x1 (by omega), hk3.heap x2 (by omega), ((putX_keeps w e).mono (fun _ h => h.elim)).trans (hk3.mono (fun k hk => .inr (.inl hk))), by rw [hz, x0]⟩

/-- the end of Put: its result is written -/
theorem put_end {w w3 w4 : World} {cb mb rb nb : Nat} {most : Int} {S : List Node} {e : Ent} (hL : Lru w4 cb mb most ((nb, e) :: S)) (hK3 : Keeps (own cb mb S) w w3) (hK4 : Keeps (own cb mb ((nb, e) :: S)) w3 w4) (hrn : rb ≠ nb) (hrb : w.heap.size ≤ rb) (hnb : w.heap.size ≤ nb) (hor : ¬ own cb mb S rb) (u0 u1 u2 : Value) :
    let w' := ((w4.setCell ⟨rb, 0, none⟩ u0).setCell ⟨rb, 1, none⟩ u1).setCell ⟨rb, 2, none⟩ u2
    Lru w' cb mb most ((nb, e) :: S) ∧ Keeps (own cb mb S) w w' ∧ w'.heap.size = w4.heap.size := by
  refine ⟨hL.keeps (((Keeps.refl (· = rb) w4).setCell (.inl rfl) _).setCell (.inl rfl) _ |>.setCell (.inl rfl) _) (fun k hk e2 => ?_), ?_, by simp [World.setCell]⟩
  · rcases hk with h | h | h
    · exact hor (by rw [← e2]; exact .inl h)
    · exact hor (by rw [← e2]; exact .inr (.inl h))
    · rw [List.map_cons, List.mem_cons] at h
      rcases h with h | h
      · exact hrn (by rw [← e2]; exact h)
      · exact hor (by rw [← e2]; exact .inr (.inr h))
  · have h1 : Keeps (own cb mb S) w w4 := hK3.trans' hK4 (fun j hj => by
      rcases hj with h | h | h
      · exact .inl (.inl h)
      · exact .inl (.inr (.inl h))
      · rw [List.map_cons, List.mem_cons] at h
        rcases h with h | h
        · exact .inr (by rw [h]; exact hnb)
        · exact .inl (.inr (.inr h)))
    exact ((h1.setCell (.inr hrb) _).setCell (.inr hrb) _).setCell (.inr hrb) _

set_option maxHeartbeats 2000000 in
set_option maxRecDepth 100000 in
theorem put_new {w : World} {cb mb : Nat} {most : Int} {S : List Node} (h : Lru w cb mb most S) (e : Ent) (he : ∀ s ∈ S, s.2.key ≠ e.key) (hlt : (S.length : Int) < most) :
    Calls Try.prog 15 #[.pointer (some ⟨cb, 0, none⟩), .agg #[.int .i64 e.key, .int .u64 e.val, .bool e.dirty]] w fun en w' => en = .returned (.tuple #[entV ent0, .bool false]) ∧ ∃ nb, w.heap.size ≤ nb ∧ nb < w'.heap.size ∧ Lru w' cb mb most ((nb, e) :: S) ∧ Keeps (own cb mb S) w w' := by
  have h0 := h.keeps (((Keeps.refl Nil w).alloc (.cells #[.int .i64 e.key, .int .u64 e.val, .bool e.dirty] 32)).alloc (.cells #[.int .i64 0, .int .u64 0, .bool false] 32)) (fun _ _ h => h)
  have hC := Lib.hid (find_out h0 he)
  have hk0 := Lib.hid (((Keeps.refl (own cb mb S) w).alloc (.cells #[.int .i64 e.key, .int .u64 e.val, .bool e.dirty] 32)).alloc (.cells #[.int .i64 0, .int .u64 0, .bool false] 32))
  have hd : ((S.length : Int) == most) = false := by simp; omega
  obtain ⟨f, hm, hof⟩ := h0.map
  have hm' := Lib.hid hm
  have hof' := Lib.hid hof
  have hl := hof.2.1
  have hlen := Lib.hid (show ∀ W, Keeps Nil ((w.alloc (.cells #[.int .i64 e.key, .int .u64 e.val, .bool e.dirty] 32)).alloc (.cells #[.int .i64 0, .int .u64 0, .bool false] 32)) W → (Builtin.len_ #[84] 3 #[.map (some mb)]).run Try.prog W = .ok (.int .i64 (S.length : Nat)) W from fun W hW => by rw [← hl]; exact run_mlen Try.underlying84 (hm.keeps hW (fun h => h)) 3)
  have hat := h0.at_
  have hmost := h0.most
  have hw := Lib.hid h
  have he' := Lib.hid he
  have hcm := Lib.hid (show ¬ cb = mb from h0.ne_map)
  have hmX := Lib.hid (show ∀ W, Keeps Nil ((w.alloc (.cells #[.int .i64 e.key, .int .u64 e.val, .bool e.dirty] 32)).alloc (.cells #[.int .i64 0, .int .u64 0, .bool false] 32)) W → MapAt W mb f from fun W hW => hm.keeps hW (fun h => h))
  have hlm := hm.lt
  have hem := Lib.hid (show ¬ w.heap.size = mb from fun e => by have := h.toLruB.lt (.inr (.inl rfl)); omega)
  clear h he hm hof hl h0 hlm
  go_enter Try.func15, Try.ntmps15
  go_wp2_with fail
  refine (hC.out).mono ?_
  rintro e1 w1 ⟨rfl, rfl⟩
  clear hC
  have hlen0 := hlen.out _ (Keeps.refl Nil _)
  go_wp2_with fail
  go_region_held3 (fun W => W.cell? ⟨cb, 1, none⟩ = some (.map (some mb)) ∧ W.cell? ⟨cb, 0, none⟩ = some (.int .i64 most) ∧ (Builtin.len_ #[84] 3 #[.map (some mb)]).run Try.prog W = .ok (.int .i64 (S.length : Nat)) W) ((go_split_ands; refine ⟨?_, ?_, ?_⟩ <;> (first | (go_keep; done) | (refine hlen.out _ ?_; first | exact (Keeps.refl Nil _).drew | exact ((Keeps.refl Nil _).alloc _).drew | exact ((Keeps.refl Nil _).drew).alloc _)))) (fail)
  go_wp2_with fail
  obtain ⟨w3, hr, hm3, hk3, hz3⟩ := run_upd (P := Try.prog) (w := ((((w.alloc (.cells #[.int .i64 e.key, .int .u64 e.val, .bool e.dirty] 32)).alloc (.cells #[.int .i64 0, .int .u64 0, .bool false] 32)).alloc (.cells #[.int .i64 0, .int .u64 0, .bool false] 32)).alloc (.cells #[.int .i64 e.key, .int .u64 e.val, .bool e.dirty, .pointer none, .pointer none] 87)).drew.drew) Try.underlying84 Try.underlying3 (hmX.out _ (by repeat (first | exact Keeps.refl _ _ | with_reducible refine Keeps.drew ?_ | with_reducible refine Keeps.alloc ?_ _))) e.key (.pointer (some ⟨w.heap.size + 1 + 1 + 1, 0, none⟩))
  obtain ⟨hB3, hS3, hc3, hc4, hrb, hgb, hK3, hZ3⟩ := put_mid hw.out he'.out hof'.out hm3 hk3 hz3
  have hk3' := Lib.hid hk3
  obtain ⟨v2, hv2, c6, ⟨y3, x3⟩, ⟨y4, x4⟩, ⟨yv2, cv2⟩, hcs, hvs2, hvc, hL, hK, hZ⟩ := lru_first hB3 hS3 hc3 hc4
  have f1 := hB3.fro cb (.inl rfl) 6
  have f2 := hB3.fro (w.heap.size + 1 + 1 + 1) (.inr (by simp))
  have f3 : w3.frozen? ⟨v2.1, v2.2 + 3, none⟩ = false := hB3.fro v2.1 (by
    rcases mem_links hv2 with rfl | ⟨_, hm⟩
    · exact .inl rfl
    · exact .inr (by rw [List.map_cons]; exact List.mem_cons_of_mem _ hm)) _
  have hC2 := Lib.hid (first_any cb (w.heap.size + 1 + 1 + 1) v2.1 v2.2 w3 y3 y4 yv2 c6 x3 x4 cv2 (f2 3) (f2 4) f1 f3 hcs hvs2 hvc)
  have hor : ¬ own cb mb S (w.heap.size + 1) := fun ho => by have := hw.out.toLruB.lt ho; omega
  have hog : ¬ own cb mb S (w.heap.size + 1 + 1) := fun ho => by have := hw.out.toLruB.lt ho; omega
  have hor2 : ¬ own cb mb ((w.heap.size + 1 + 1 + 1, e) :: S) (w.heap.size + 1) := fun ho => by
    rcases ho with h | h | h
    · exact hor (.inl h)
    · exact hor (.inr (.inl h))
    · rw [List.map_cons, List.mem_cons] at h
      rcases h with h | h
      · have h' : w.heap.size + 1 = w.heap.size + 1 + 1 + 1 := h
        omega
      · exact hor (.inr (.inr h))
  have hog2 : ¬ own cb mb ((w.heap.size + 1 + 1 + 1, e) :: S) (w.heap.size + 1 + 1) := fun ho => by
    rcases ho with h | h | h
    · exact hog (.inl h)
    · exact hog (.inr (.inl h))
    · rw [List.map_cons, List.mem_cons] at h
      rcases h with h | h
      · have h' : w.heap.size + 1 + 1 = w.heap.size + 1 + 1 + 1 := h
        omega
      · exact hog (.inr (.inr h))
  have hrb4 := Lib.hid (hK.heap hrb hor2)
  have hgb4 := Lib.hid (hK.heap hgb hog2)
  have hL' := Lib.hid hL
  have hK' := Lib.hid hK
  have hZ' := Lib.hid (hZ.trans hZ3)
  have hK3' := Lib.hid hK3
  have hor' := Lib.hid hor
  clear hL hK hZ c6 x3 x4 cv2 f1 f2 f3 hcs hvs2 hvc hm3 hk3 hz3 hB3 hS3 hc3 hc4 hrb hgb hK3 hZ3 hor hog hor2 hog2
  go_region_held3 (fun W => W.cell? ⟨cb, 1, none⟩ = some (.map (some mb)) ∧ W.cell? ⟨w.heap.size, 0, none⟩ = some (.int .i64 e.key)) ((go_split_ands; refine ⟨?_, ?_⟩ <;> (first | (go_keep; done) | (refine hk3'.out.cell ?_ hcm.out; assumption) | (refine hk3'.out.cell ?_ hem.out; assumption)))) (fail)
  clear hr
  go_wp2_with fail
  refine (hC2.out).mono ?_
  rintro e2 w4 ⟨rfl, hw4⟩
  rw [← hw4] at hrb4 hgb4 hL' hK' hZ'
  clear hw4
  have r0 : w4.cell? ⟨w.heap.size + 1, 0, none⟩ = some (.int .i64 0) := cell_of_heap hrb4.out 0
  have r1 : w4.cell? ⟨w.heap.size + 1, 1, none⟩ = some (.int .u64 0) := cell_of_heap hrb4.out 1
  have r2 : w4.cell? ⟨w.heap.size + 1, 2, none⟩ = some (.bool false) := cell_of_heap hrb4.out 2
  have g0 := frozen_of_heap hrb4.out 0
  have g1 := frozen_of_heap hrb4.out 1
  have g2 := frozen_of_heap hrb4.out 2
  have q0 : w4.cell? ⟨w.heap.size + 1 + 1, 0, none⟩ = some (.int .i64 0) := cell_of_heap hgb4.out 0
  have q1 : w4.cell? ⟨w.heap.size + 1 + 1, 1, none⟩ = some (.int .u64 0) := cell_of_heap hgb4.out 1
  have q2 : w4.cell? ⟨w.heap.size + 1 + 1, 2, none⟩ = some (.bool false) := cell_of_heap hgb4.out 2
  go_wp2_with fail
  have y := cells3 w4 (w.heap.size + 1) (v0 := .int .i64 0) (v1 := .int .u64 0) (v2 := .bool false) r0 r1 r2
  have hfin := put_end (rb := w.heap.size + 1) hL'.out hK3'.out hK'.out (by omega) (by omega) (by omega) hor'.out (.int .i64 0) (.int .u64 0) (.bool false)
  exact bodyPost_ret (v := .tuple #[entV ent0, .bool false]) (by simp [results, Try.results15, go_sem, entV, ent0, y.1, y.2.1, y.2.2]) rfl ⟨rfl, w.heap.size + 1 + 1 + 1, by omega, by rw [hfin.2.2, hZ'.out]; omega, hfin.1, hfin.2.1⟩
end Go.Proofs.Ytnickcjkipemmaa
