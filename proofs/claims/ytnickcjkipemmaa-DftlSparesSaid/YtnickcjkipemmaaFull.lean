/- walk of Put where one has to go -/
import Derived.Test.YtnickcjkipemmaaNew
import Derived.BigRegion
import Derived.Outline
namespace Go.Proofs.Ytnickcjkipemmaa
open Go.RowKit

attribute [local go_sem ↓] Go.wp_at_zero Go.wp_at_succ

theorem put_mid2 {V X w3 : World} {cb mb nb : Nat} {most : Int} {S : List Node} {e : Ent} {f : List (Int × Value)} (h : Lru V cb mb most S) (hVX : Keeps Nil V X) (hnode : X.heap[nb]? = some (.cells #[.int .i64 e.key, .int .u64 e.val, .bool e.dirty, .pointer none, .pointer none] 87)) (hnb : V.heap.size ≤ nb)
    (he : ∀ s ∈ S, s.2.key ≠ e.key) (hof : MapOf f S) (hm3 : MapAt w3 mb (mset e.key (.pointer (some ⟨nb, 0, none⟩)) f)) (hk3 : Keeps (· = mb) X w3) :
    LruB w3 cb mb most ((nb, e) :: S) ∧ Seq w3 ((cb, 2) :: S.map lk ++ [(cb, 2)]) ∧ (w3.cell? ⟨nb, 3, none⟩).isSome = true ∧ (w3.cell? ⟨nb, 4, none⟩).isSome = true ∧ Keeps (own cb mb S) V w3 := by
  have hX := h.keeps hVX (fun _ _ h => h)
  have hlt : ∀ k, own cb mb S k → k < V.heap.size := fun k hk => h.toLruB.lt hk
  have hmlt := hlt mb (.inr (.inl rfl))
  have hnode3 := hk3.heap hnode (show ¬ nb = mb by omega)
  have c := cell_of_heap hnode3
  exact ⟨hX.toLruB.add hof hm3 hk3 he ⟨cell_of_heap hnode 0, cell_of_heap hnode 1, cell_of_heap hnode 2⟩ (fun ho => by have := hlt _ ho; omega) ⟨_, _, hnode⟩, Seq.keeps hk3 hX.seq (Lru.seq_ne hX.toLruB (fun x hx => hx)), by rw [c 3]; rfl, by rw [c 4]; rfl,
    (hVX.mono (fun _ h => h.elim)).trans (hk3.mono (fun k hk => .inr (.inl hk)))⟩

theorem put_end2 {w w3 w4 : World} {cb mb rb nb : Nat} {most : Int} {S : List Node} {e : Ent} {O : Nat → Prop} (hL : Lru w4 cb mb most ((nb, e) :: S)) (hK3 : Keeps O w w3) (hK4 : Keeps (own cb mb ((nb, e) :: S)) w3 w4) (hO : ∀ k, own cb mb S k → O k) (hrn : rb ≠ nb) (hrb : w.heap.size ≤ rb) (hnb : w.heap.size ≤ nb) (hor : ¬ O rb) (u0 u1 u2 : Value) :
    let w' := ((w4.setCell ⟨rb, 0, none⟩ u0).setCell ⟨rb, 1, none⟩ u1).setCell ⟨rb, 2, none⟩ u2
    Lru w' cb mb most ((nb, e) :: S) ∧ Keeps O w w' ∧ w'.heap.size = w4.heap.size := by
  refine ⟨hL.keeps (((Keeps.refl (· = rb) w4).setCell (.inl rfl) _).setCell (.inl rfl) _ |>.setCell (.inl rfl) _) (fun k hk e2 => ?_), ?_, by simp [World.setCell]⟩
  · rcases hk with h | h | h
    · exact hor (by rw [← e2]; exact hO _ (.inl h))
    · exact hor (by rw [← e2]; exact hO _ (.inr (.inl h)))
    · rw [List.map_cons, List.mem_cons] at h
      rcases h with h | h
      · exact hrn (by rw [← e2]; exact h)
      · exact hor (by rw [← e2]; exact hO _ (.inr (.inr h)))
  · have h1 : Keeps O w w4 := hK3.trans' hK4 (fun j hj => by
      rcases hj with h | h | h
      · exact .inl (hO _ (.inl h))
      · exact .inl (hO _ (.inr (.inl h)))
      · rw [List.map_cons, List.mem_cons] at h
        rcases h with h | h
        · exact .inr (by rw [h]; exact hnb)
        · exact .inl (hO _ (.inr (.inr h))))
    exact ((h1.setCell (.inr hrb) _).setCell (.inr hrb) _).setCell (.inr hrb) _
theorem keeps_set3 (V : World) (g : Nat) (v0 v1 v2 : Value) : Keeps (· = g) V (((V.setCell ⟨g, 0, none⟩ v0).setCell ⟨g, 1, none⟩ v1).setCell ⟨g, 2, none⟩ v2) :=
  (((Keeps.refl (fun k => k = g) V).setCell (p := ⟨g, 0, none⟩) (.inl rfl) v0).setCell (p := ⟨g, 1, none⟩) (.inl rfl) v1).setCell (p := ⟨g, 2, none⟩) (.inl rfl) v2
theorem Lru.last {w : World} {cb mb : Nat} {most : Int} {A : List Node} {s : Node} (h : Lru w cb mb most (A ++ [s])) : w.cell? ⟨cb, 5, none⟩ = some (.pointer (some ⟨s.1, 0, none⟩)) := by
  have h1 := h.seq
  rw [show (cb, 2) :: (A ++ [s]).map lk ++ [(cb, 2)] = ((cb, 2) :: A.map lk) ++ lk s :: [(cb, 2)] by simp, Seq.split] at h1
  exact h1.2.1.2

set_option maxHeartbeats 2000000 in
set_option maxRecDepth 100000 in
theorem put_full {w : World} {cb mb : Nat} {most : Int} {A : List Node} {s : Node} (h : Lru w cb mb most (A ++ [s])) (e : Ent) (he : ∀ x ∈ A ++ [s], x.2.key ≠ e.key) (hlt : ((A.length + 1 : Nat) : Int) = most) :
    Calls Try.prog 15 #[.pointer (some ⟨cb, 0, none⟩), .agg #[.int .i64 e.key, .int .u64 e.val, .bool e.dirty]] w fun en w' => en = .returned (.tuple #[entV s.2, .bool true]) ∧ ∃ nb, w.heap.size ≤ nb ∧ nb < w'.heap.size ∧ Lru w' cb mb most ((nb, e) :: A) ∧ Keeps (own cb mb (A ++ [s])) w w' := by
  have h0 := h.keeps (((Keeps.refl Nil w).alloc (.cells #[.int .i64 e.key, .int .u64 e.val, .bool e.dirty] 32)).alloc (.cells #[.int .i64 0, .int .u64 0, .bool false] 32)) (fun _ _ h => h)
  have hC := Lib.hid (find_out h0 he)
  have h1 := h0.keeps (((Keeps.refl Nil _).alloc (.cells #[.int .i64 0, .int .u64 0, .bool false] 32)).drew) (fun _ _ h => h)
  have hK1 := Lib.hid (((((Keeps.refl (own cb mb (A ++ [s])) w).alloc (.cells #[.int .i64 e.key, .int .u64 e.val, .bool e.dirty] 32)).alloc (.cells #[.int .i64 0, .int .u64 0, .bool false] 32)).alloc (.cells #[.int .i64 0, .int .u64 0, .bool false] 32)).drew)
  have hd : ((A.length + 1 : Nat) : Int) = most := hlt
  have hd1 : (((A.length + 1 : Nat) : Int) == most) = true := by simpa using hlt
  obtain ⟨f, hm, hof⟩ := h0.map
  have hl := hof.2.1
  have hlen := Lib.hid (show ∀ W, Keeps Nil ((w.alloc (.cells #[.int .i64 e.key, .int .u64 e.val, .bool e.dirty] 32)).alloc (.cells #[.int .i64 0, .int .u64 0, .bool false] 32)) W → (Builtin.len_ #[84] 3 #[.map (some mb)]).run Try.prog W = .ok (.int .i64 most) W from fun W hW => by
    have := run_mlen Try.underlying84 (hm.keeps hW (fun h => h)) 3
    rw [this, hl, ← hlt]; simp)
  have hmm : (most == most) = true := by simp
  have hat := h0.at_
  have hmost := h0.most
  have hlast := h1.last
  have hlk := (h1.ent s (by simp)).key
  have hC18a := drop_in (A := A) (B := []) (s := s) h1
  unfold entV at hC18a
  have hC18 := Lib.hid hC18a
  clear hC18a
  have hw := Lib.hid h
  have he' := Lib.hid he
  clear h he hm hof hl h0 h1 hd hd1 hlt
  go_enter Try.func15, Try.ntmps15
  go_wp2_with fail
  refine (hC.out).mono ?_
  rintro e1 w1 ⟨rfl, rfl⟩
  clear hC
  have hlen0 := hlen.out _ (Keeps.refl Nil _)
  go_wp2_with fail
  go_region_held3 (fun W => W.cell? ⟨cb, 1, none⟩ = some (.map (some mb)) ∧ W.cell? ⟨cb, 0, none⟩ = some (.int .i64 most) ∧ (Builtin.len_ #[84] 3 #[.map (some mb)]).run Try.prog W = .ok (.int .i64 most) W) ((go_split_ands; refine ⟨?_, ?_, ?_⟩ <;> (first | (go_keep; done) | (refine hlen.out _ ?_; first | exact (Keeps.refl Nil _).drew | exact ((Keeps.refl Nil _).alloc _).drew | exact ((Keeps.refl Nil _).drew).alloc _)))) (fail)
  go_wp2_with fail
  refine (hC18.out).mono ?_
  rintro e2 V ⟨rfl, hL, hK⟩
  clear hC18 hat hmost hlast hlk hlen0
  rw [List.append_nil] at hL
  have z1 : (w.alloc (.cells #[.int .i64 e.key, .int .u64 e.val, .bool e.dirty] 32)).heap.size = w.heap.size + 1 := by simp
  have z2 : ((w.alloc (.cells #[.int .i64 e.key, .int .u64 e.val, .bool e.dirty] 32)).alloc (.cells #[.int .i64 0, .int .u64 0, .bool false] 32)).heap.size = w.heap.size + 1 + 1 := by simp
  have hor0 : ¬ own cb mb (A ++ [s]) (w.heap.size) := fun ho => by have := hw.out.toLruB.lt ho; omega
  have hor : ¬ own cb mb (A ++ [s]) (w.heap.size + 1) := fun ho => by have := hw.out.toLruB.lt ho; omega
  have hog : ¬ own cb mb (A ++ [s]) (w.heap.size + 1 + 1) := fun ho => by have := hw.out.toLruB.lt ho; omega
  have b0 : V.heap[w.heap.size]? = some (.cells #[.int .i64 e.key, .int .u64 e.val, .bool e.dirty] 32) := hK.heap (heap_alloc_old (heap_alloc_old (heap_alloc_new _ _))) hor0
  have b1 : V.heap[w.heap.size + 1]? = some (.cells #[.int .i64 0, .int .u64 0, .bool false] 32) := hK.heap (by rw [← z1]; exact heap_alloc_old (heap_alloc_new _ _)) hor
  have b2 : V.heap[w.heap.size + 1 + 1]? = some (.cells #[.int .i64 0, .int .u64 0, .bool false] 32) := hK.heap (by rw [← z2]; exact heap_alloc_new _ _) hog
  have hsV := hK.size
  have hsV2 : w.heap.size + 1 + 1 + 1 ≤ V.heap.size := by simpa using hsV
  have hVs : Keeps (· = w.heap.size + 1 + 1) V (((V.setCell ⟨w.heap.size + 1 + 1, 0, none⟩ (.int .i64 s.2.key)).setCell ⟨w.heap.size + 1 + 1, 1, none⟩ (.int .u64 s.2.val)).setCell ⟨w.heap.size + 1 + 1, 2, none⟩ (.bool s.2.dirty)) :=
    keeps_set3 V _ _ _ _
  have hAo : ∀ k, own cb mb A k → own cb mb (A ++ [s]) k := fun k hk => by
    rcases hk with h | h | h
    · exact .inl h
    · exact .inr (.inl h)
    · exact .inr (.inr (by rw [List.map_append, List.mem_append]; exact .inl h))
  have hLs := hL.keeps hVs (fun k hk e3 => hog (by rw [← e3]; exact hAo k hk))
  have y2 := cells3 V (w.heap.size + 1 + 1) (v0 := .int .i64 s.2.key) (v1 := .int .u64 s.2.val) (v2 := .bool s.2.dirty) (cell_of_heap b2 0) (cell_of_heap b2 1) (cell_of_heap b2 2)
  have hK1s := Lib.hid (((hK1.out.trans hK).trans' hVs (fun j hj => .inr (by rw [hj]; omega))))
  have c20 : V.cell? ⟨w.heap.size + 1 + 1, 0, none⟩ = some (.int .i64 0) := cell_of_heap b2 0
  have c21 : V.cell? ⟨w.heap.size + 1 + 1, 1, none⟩ = some (.int .u64 0) := cell_of_heap b2 1
  have c22 : V.cell? ⟨w.heap.size + 1 + 1, 2, none⟩ = some (.bool false) := cell_of_heap b2 2
  have f20 := frozen_of_heap b2 0
  have f21 := frozen_of_heap b2 1
  have f22 := frozen_of_heap b2 2
  have n02 : ¬ w.heap.size = w.heap.size + 1 + 1 := by omega
  have n12 : ¬ w.heap.size + 1 = w.heap.size + 1 + 1 := by omega
  have bs0 := hVs.heap b0 n02
  have bs1 := hVs.heap b1 n12
  have e0 := cell_of_heap bs0 0
  have e1 := cell_of_heap bs0 1
  have e2 := cell_of_heap bs0 2
  have bs1' := Lib.hid bs1
  have y2' := Lib.hid y2
  have hLs' := Lib.hid hLs
  have hatS := hLs.at_
  have hsV2' := Lib.hid hsV2
  have hor' := Lib.hid hor
  have hog' := Lib.hid hog
  have hAo' := Lib.hid hAo
  clear hL hK z1 z2 hor0 hor hog b0 b1 b2 hsV hsV2 hVs hLs y2 n02 n12 bs0 bs1 hK1 hAo
  go_wp2_with fail
  obtain ⟨f2, hm2, hof2⟩ := hLs'.out.map
  have hsz : ((((V.setCell ⟨w.heap.size + 1 + 1, 0, none⟩ (.int .i64 s.2.key)).setCell ⟨w.heap.size + 1 + 1, 1, none⟩ (.int .u64 s.2.val)).setCell ⟨w.heap.size + 1 + 1, 2, none⟩ (.bool s.2.dirty))).heap.size = V.heap.size := by simp [World.setCell]
  have hVX : Keeps Nil (((V.setCell ⟨w.heap.size + 1 + 1, 0, none⟩ (.int .i64 s.2.key)).setCell ⟨w.heap.size + 1 + 1, 1, none⟩ (.int .u64 s.2.val)).setCell ⟨w.heap.size + 1 + 1, 2, none⟩ (.bool s.2.dirty)) (((((V.setCell ⟨w.heap.size + 1 + 1, 0, none⟩ (.int .i64 s.2.key)).setCell ⟨w.heap.size + 1 + 1, 1, none⟩ (.int .u64 s.2.val)).setCell ⟨w.heap.size + 1 + 1, 2, none⟩ (.bool s.2.dirty)).alloc (.cells #[.int .i64 e.key, .int .u64 e.val, .bool e.dirty, .pointer none, .pointer none] 87)).drew) := ((Keeps.refl Nil _).alloc _).drew
  obtain ⟨w3, hr, hm3, hk3, hz3⟩ := run_upd (P := Try.prog) (w := (((((V.setCell ⟨w.heap.size + 1 + 1, 0, none⟩ (.int .i64 s.2.key)).setCell ⟨w.heap.size + 1 + 1, 1, none⟩ (.int .u64 s.2.val)).setCell ⟨w.heap.size + 1 + 1, 2, none⟩ (.bool s.2.dirty)).alloc (.cells #[.int .i64 e.key, .int .u64 e.val, .bool e.dirty, .pointer none, .pointer none] 87)).drew)) Try.underlying84 Try.underlying3 (hm2.keeps hVX (fun h => h)) e.key (.pointer (some ⟨V.heap.size, 0, none⟩))
  have hnode : ((((((V.setCell ⟨w.heap.size + 1 + 1, 0, none⟩ (.int .i64 s.2.key)).setCell ⟨w.heap.size + 1 + 1, 1, none⟩ (.int .u64 s.2.val)).setCell ⟨w.heap.size + 1 + 1, 2, none⟩ (.bool s.2.dirty)).alloc (.cells #[.int .i64 e.key, .int .u64 e.val, .bool e.dirty, .pointer none, .pointer none] 87)).drew)).heap[V.heap.size]? = some (.cells #[.int .i64 e.key, .int .u64 e.val, .bool e.dirty, .pointer none, .pointer none] 87) := by rw [← hsz]; exact heap_alloc_new _ _
  obtain ⟨hB3, hS3, hc3, hc4, hK3⟩ := put_mid2 (nb := V.heap.size) hLs'.out hVX hnode (by rw [hsz]; omega) (fun x hx => he'.out x (by simp [hx])) hof2 hm3 hk3
  have hlm := hm2.lt
  have hcm := Lib.hid (show ¬ cb = mb from hLs'.out.ne_map)
  have hAm : own cb mb (A ++ [s]) mb := .inr (.inl rfl)
  have hlm2 := hw.out.toLruB.lt hAm
  have hem := Lib.hid (show ¬ w.heap.size = mb by omega)
  have hgm : ¬ w.heap.size + 1 + 1 = mb := by omega
  have hrm : ¬ w.heap.size + 1 = mb := by omega
  have hz4 : w3.heap.size = V.heap.size + 1 := by rw [hz3]; show (World.alloc _ _).heap.size = _; rw [← hsz]; simp
  obtain ⟨v2, hv2, c6, ⟨y3, x3⟩, ⟨y4, x4⟩, ⟨yv2, cv2⟩, hcs, hvs2, hvc, hL, hK, hZ⟩ := lru_first hB3 hS3 hc3 hc4
  have f1 := hB3.fro cb (.inl rfl) 6
  have f2 := hB3.fro (V.heap.size) (.inr (by simp))
  have f3 : w3.frozen? ⟨v2.1, v2.2 + 3, none⟩ = false := hB3.fro v2.1 (by
    rcases mem_links hv2 with rfl | ⟨_, hm⟩
    · exact .inl rfl
    · exact .inr (by rw [List.map_cons]; exact List.mem_cons_of_mem _ hm)) _
  have hC2 := Lib.hid (first_any cb V.heap.size v2.1 v2.2 w3 y3 y4 yv2 c6 x3 x4 cv2 (f2 3) (f2 4) f1 f3 hcs hvs2 hvc)
  have hsV3 := hsV2'.out
  have hno : ∀ g, ¬ own cb mb (A ++ [s]) g → g ≠ V.heap.size → ¬ own cb mb ((V.heap.size, e) :: A) g := fun g h1 h2 ho => by
    rcases ho with h | h | h
    · exact h1 (.inl h)
    · exact h1 (.inr (.inl h))
    · rw [List.map_cons, List.mem_cons] at h
      rcases h with h | h
      · exact h2 h
      · exact h1 (hAo'.out g (.inr (.inr h)))
  have hrb := hk3.heap ((Keeps.heap (w := (((V.setCell ⟨w.heap.size + 1 + 1, 0, none⟩ (.int .i64 s.2.key)).setCell ⟨w.heap.size + 1 + 1, 1, none⟩ (.int .u64 s.2.val)).setCell ⟨w.heap.size + 1 + 1, 2, none⟩ (.bool s.2.dirty))) hVX bs1'.out (fun h => h))) hrm
  have hgb0 := hk3.cell (hVX.cell y2'.out.1 (fun h => h)) hgm
  have hgb1 := hk3.cell (hVX.cell y2'.out.2.1 (fun h => h)) hgm
  have hgb2 := hk3.cell (hVX.cell y2'.out.2.2 (fun h => h)) hgm
  have hrb4 := Lib.hid (hK.heap hrb (hno _ hor'.out (by omega)))
  have hog2 := hno _ hog'.out (show w.heap.size + 1 + 1 ≠ V.heap.size by omega)
  have hg0 := Lib.hid (hK.cell hgb0 hog2)
  have hg1 := Lib.hid (hK.cell hgb1 hog2)
  have hg2 := Lib.hid (hK.cell hgb2 hog2)
  have hL' := Lib.hid hL
  have hK' := Lib.hid hK
  have hZ' := Lib.hid (hZ.trans hz4)
  have hK3' := Lib.hid (hK1s.out.trans (hK3.mono (fun k hk => hAo'.out k hk)))
  have hk3' := Lib.hid hk3
  clear hL hK hZ c6 x3 x4 cv2 f1 f2 f3 hcs hvs2 hvc hm3 hk3 hz3 hB3 hS3 hc3 hc4 hrb hgb0 hgb1 hgb2 hK3 hog2 hno hsV3 hm2 hof2 hsz hVX hnode hlm hAm hlm2 hgm hrm hz4
  go_region_held3 (fun W => W.cell? ⟨cb, 1, none⟩ = some (.map (some mb)) ∧ W.cell? ⟨w.heap.size, 0, none⟩ = some (.int .i64 e.key)) ((go_split_ands; refine ⟨?_, ?_⟩ <;> (first | (go_keep; done) | (refine hk3'.out.cell ?_ hcm.out; assumption) | (refine hk3'.out.cell ?_ hem.out; assumption)))) (fail)
  clear hr
  go_wp2_with fail
  refine (hC2.out).mono ?_
  rintro e5 w4 ⟨rfl, hw4⟩
  rw [← hw4] at hrb4 hg0 hg1 hg2 hL' hK' hZ'
  clear hw4
  have r0 : w4.cell? ⟨w.heap.size + 1, 0, none⟩ = some (.int .i64 0) := cell_of_heap hrb4.out 0
  have r1 : w4.cell? ⟨w.heap.size + 1, 1, none⟩ = some (.int .u64 0) := cell_of_heap hrb4.out 1
  have r2 : w4.cell? ⟨w.heap.size + 1, 2, none⟩ = some (.bool false) := cell_of_heap hrb4.out 2
  have g0 := frozen_of_heap hrb4.out 0
  have g1 := frozen_of_heap hrb4.out 1
  have g2 := frozen_of_heap hrb4.out 2
  have q0 : w4.cell? ⟨w.heap.size + 1 + 1, 0, none⟩ = some (.int .i64 s.2.key) := hg0.out
  have q1 : w4.cell? ⟨w.heap.size + 1 + 1, 1, none⟩ = some (.int .u64 s.2.val) := hg1.out
  have q2 : w4.cell? ⟨w.heap.size + 1 + 1, 2, none⟩ = some (.bool s.2.dirty) := hg2.out
  go_wp2_with fail
  have y := cells3 w4 (w.heap.size + 1) (v0 := .int .i64 s.2.key) (v1 := .int .u64 s.2.val) (v2 := .bool s.2.dirty) r0 r1 r2
  have hlo := hsV2'.out
  have hfin := put_end2 (rb := w.heap.size + 1) hL'.out hK3'.out hK'.out hAo'.out (by omega) (by omega) (by omega) hor'.out (.int .i64 s.2.key) (.int .u64 s.2.val) (.bool s.2.dirty)
  exact bodyPost_ret (v := .tuple #[entV s.2, .bool true]) (by simp [results, Try.results15, go_sem, entV, y.1, y.2.1, y.2.2]) rfl ⟨rfl, V.heap.size, by omega, by rw [hfin.2.2, hZ'.out]; omega, hfin.1, hfin.2.1⟩
end Go.Proofs.Ytnickcjkipemmaa
