/- the reference's Delete, Key, Free -/
import Derived.Test.YtmdgbcbnciaikaaV
namespace Go.Proofs.Ytmdgbcbnciaikaa
open Go.RowKit

attribute [local go_sem ↓] Go.wp_at_zero Go.wp_at_succ

/-- the reference's table, which has T -/
def RIn (w : World) (rb ob : Nat) (keys : Int) (T : List Spc) : Prop := ∃ O, RefAt w rb ob O ∧ Rel keys T O
theorem RIn.same {w w' : World} {rb ob : Nat} {keys : Int} {T : List Spc} (h : RIn w rb ob keys T) (hk : Keeps Nil w w') : RIn w' rb ob keys T :=
  let ⟨O, h1, h2⟩ := h
  ⟨O, h1.same hk, h2⟩
theorem RIn.other {S : Nat → Prop} {w w' : World} {rb ob : Nat} {keys : Int} {T : List Spc} (h : RIn w rb ob keys T) (hk : Keeps S w w') (h1 : ¬ S rb) (h2 : ¬ S ob) : RIn w' rb ob keys T :=
  let ⟨O, h3, h4⟩ := h
  ⟨O, h3.keeps hk h1 h2, h4⟩
theorem RIn.find {w : World} {rb ob : Nat} {keys : Int} {T : List Spc} (h : RIn w rb ob keys T) (hok : TabOk keys T) (hk : keys ≤ 4096) (id : Int) :
    Calls Try.prog 20 #[.pointer (some ⟨rb, 0, none⟩), .int .i64 id] w fun e w' => e = .returned (.tuple #[spV (tat T id), .int .i64 (ferr (tat T id))]) ∧ Keeps Nil w w' := by
  obtain ⟨O, h1, h2⟩ := h
  exact rfind_any h1 h2 hok hk id
theorem RIn.lay0 {w : World} {rb ob i : Nat} {keys : Int} {T : List Spc} (h : RIn w rb ob keys T) (hok : TabOk keys T) (hk : keys ≤ 4096) {s : Spc} (hi : T[i]? = some s) (hs : s ≠ sp0) :
    Calls Try.prog 33 #[.pointer (some ⟨rb, 0, none⟩), .int .i64 s.base, .int .i64 s.size, .int .i64 0] w fun e w' => e = .returned (.tuple #[]) ∧ RIn w' rb ob keys (T.set i sp0) ∧ Keeps (· = ob) w w' := by
  obtain ⟨O, h1, h2⟩ := h
  have hsm : s ∈ spAll T := mem_all.2 ⟨List.mem_of_getElem? hi, hs⟩
  obtain ⟨z1, z2, z3⟩ := hok.all hsm
  obtain ⟨b, hb⟩ : ∃ b : Nat, s.base = (b : Int) := ⟨s.base.toNat, by omega⟩
  obtain ⟨z, hz⟩ : ∃ z : Nat, s.size = (z : Int) := ⟨s.size.toNat, by omega⟩
  obtain ⟨h3, h4⟩ := h2.del hok hi hs hb hz
  have hlen := h2.len
  rw [hb, hz]
  refine (lay_any h1 h3 (by omega)).mono ?_
  rintro e w' ⟨rfl, h5, h6⟩
  exact ⟨rfl, ⟨_, h5, h4⟩, h6⟩
theorem RIn.put {w : World} {rb ob i : Nat} {keys : Int} {T : List Spc} (h : RIn w rb ob keys T) (hk : keys ≤ 4096) {s : Spc} (hi : T[i]? = some sp0) (hs : s ≠ sp0) (hid : 1 ≤ s.id) (hso : SpOk keys s) (hap : ∀ t ∈ spAll T, Apart s t)
    (hok : TabOk keys T) :
    Calls Try.prog 33 #[.pointer (some ⟨rb, 0, none⟩), .int .i64 s.base, .int .i64 s.size, .int .i64 s.id] w fun e w' => e = .returned (.tuple #[]) ∧ RIn w' rb ob keys (T.set i s) ∧ Keeps (· = ob) w w' := by
  obtain ⟨O, h1, h2⟩ := h
  obtain ⟨z1, z2, z3⟩ := hso
  obtain ⟨b, hb⟩ : ∃ b : Nat, s.base = (b : Int) := ⟨s.base.toNat, by omega⟩
  obtain ⟨z, hz⟩ : ∃ z : Nat, s.size = (z : Int) := ⟨s.size.toNat, by omega⟩
  have hlen := h2.len
  have h3 : b + z ≤ O.length := by omega
  have hf := (h2.free_iff hok (b := b) (z := z) (by omega) h3).2 (fun t ht => by
    have := hap t ht
    unfold Apart at this
    omega)
  have h4 := h2.put hi hs hid hb hz h3 hf hap
  rw [hb, hz]
  refine (lay_any h1 h3 (by omega)).mono ?_
  rintro e w' ⟨rfl, h5, h6⟩
  exact ⟨rfl, ⟨_, h5, h4⟩, h6⟩

theorem RIn.lt {w : World} {rb ob : Nat} {keys : Int} {T : List Spc} (h : RIn w rb ob keys T) : rb < w.heap.size ∧ ob < w.heap.size := by
  obtain ⟨O, h1, _⟩ := h
  exact ⟨lt_of_heap h1.head, lt_of_heap h1.row⟩

set_option maxHeartbeats 4000000 in
theorem rdelete_none {w : World} {rb ob : Nat} {keys : Int} {T : List Spc} (h : RIn w rb ob keys T) (hok : TabOk keys T) (hk : keys ≤ 4096) {id : Int} (hs : tat T id = sp0) :
    Calls Try.prog 17 #[.pointer (some ⟨rb, 0, none⟩), .int .i64 id] w fun e w' => e = .returned (.tuple #[spV sp0, .int .i64 140]) ∧ Keeps Nil w w' := by
  have hF := Lib.hid ((h.same ((Keeps.refl Nil w).alloc zblk)).find hok hk id)
  rw [hs] at hF
  simp only [zblk] at hF
  clear h hs
  go_enter Try.func17, Try.ntmps17
  go_wp2_with fail
  refine (hF.out).mono ?_
  rintro e w1 ⟨rfl, hk⟩
  have hk' := Lib.hid hk
  obtain ⟨c0, c1, c2, f0, f1, f2⟩ := fresh3 (hk.alloc (.cells #[.int .i64 0, .int .i64 0, .int .i64 0] 30))
  clear hk hF
  simp only [spV, sp0, ferr, if_true]
  go_wp2_with fail
  obtain ⟨y0, y1, y2⟩ := cells3 _ _ (v0 := .int .i64 0) (v1 := .int .i64 0) (v2 := .int .i64 0) c0 c1 c2
  exact bodyPost_ret (v := .tuple #[spV sp0, .int .i64 140]) (by simp [results, Try.results17, go_sem, spV, sp0, y0, y1, y2]) rfl ⟨rfl, ((((Keeps.refl Nil w).alloc _).trans hk'.out).alloc _).set3 (.inr (Nat.le_refl _)) _ _ _ _ _ _⟩
set_option maxHeartbeats 4000000 in
theorem rdelete_in {w : World} {rb ob i : Nat} {keys b z : Int} {T : List Spc} (h : RIn w rb ob keys T) (hok : TabOk keys T) (hkm : keys ≤ 4096) (hi : i < 16) (hg : tat T ((i : Int) + 1) = ⟨(i : Int) + 1, b, z⟩) :
    Calls Try.prog 17 #[.pointer (some ⟨rb, 0, none⟩), .int .i64 ((i : Int) + 1)] w fun e w' => e = .returned (.tuple #[spV ⟨(i : Int) + 1, b, z⟩, .int .i64 0]) ∧ RIn w' rb ob keys (T.set i sp0) ∧ Keeps (· = ob) w w' := by
  have hgT := tat_get hok.len hi
  rw [hg] at hgT
  have hne : (⟨(i : Int) + 1, b, z⟩ : Spc) ≠ sp0 := fun e => by have := congrArg Spc.id e; simp [sp0] at this; omega
  have h0 := h.same ((Keeps.refl Nil w).alloc zblk)
  have hF := h0.find hok hkm ((i : Int) + 1)
  rw [hg, show ferr ⟨(i : Int) + 1, b, z⟩ = 0 from if_neg hne] at hF
  have hF' := Lib.hid hF
  simp only [zblk, spV] at hF'
  obtain ⟨hl1, hl2⟩ := h.lt
  have hL := Lib.hid (show ∀ W, Keeps Nil (w.alloc zblk) W → Calls Try.prog 33 #[.pointer (some ⟨rb, 0, none⟩), .int .i64 b, .int .i64 z, .int .i64 0] W fun e w' => e = .returned (.tuple #[]) ∧ RIn w' rb ob keys (T.set i sp0) ∧ Keeps (· = ob) W w' from fun W hW => by
    have h := RIn.lay0 (s := ⟨(i : Int) + 1, b, z⟩) (h0.same hW) hok hkm hgT hne
    simp only at h
    exact h)
  have n1 : ¬ w.heap.size = ob := by omega
  have n2 : ¬ ob = w.heap.size := by omega
  have n3 : ¬ rb = w.heap.size := by omega
  clear h h0 hF hok hg hgT hne hi hl1
  go_enter Try.func17, Try.ntmps17
  go_wp2_with fail
  refine (hF'.out).mono ?_
  rintro e w1 ⟨rfl, hk⟩
  have hk1 := Lib.hid (show Keeps Nil (w.alloc zblk) (w1.alloc (.cells #[.int .i64 ((i : Int) + 1), .int .i64 b, .int .i64 z] 30)) from hk.alloc _)
  have hsz := hk.size
  have m1 : ¬ w1.heap.size = ob := by simp at hsz; omega
  have m2 : ¬ w1.heap.size = w.heap.size := by simp at hsz; omega
  have hb1 := heap_alloc_new w1 (.cells #[.int .i64 ((i : Int) + 1), .int .i64 b, .int .i64 z] 30)
  have hb1' := Lib.hid hb1
  clear hk hF' hsz hb1
  go_wp2_with fail
  refine (hL.out _ hk1.out).mono ?_
  rintro e w2 ⟨rfl, hR, hk⟩
  have hR' := Lib.hid hR
  have hk2 := Lib.hid hk
  have hb2 := hk.heap hb1'.out (fun e => m1 e)
  have hb0 := hk.heap (hk1.out.heap (heap_alloc_new w zblk) (fun h => h)) (fun e => n1 e)
  have c0 := cell_of_heap hb2 0
  have c1 := cell_of_heap hb2 1
  have c2 := cell_of_heap hb2 2
  have a0 := cell_of_heap hb0 0
  have a1 := cell_of_heap hb0 1
  have a2 := cell_of_heap hb0 2
  have f0 := frozen_of_heap hb0 0
  have f1 := frozen_of_heap hb0 1
  have f2 := frozen_of_heap hb0 2
  have m3 : ¬ w.heap.size = w1.heap.size := fun e => m2 e.symm
  simp at c0 c1 c2 a0 a1 a2
  have y := Lib.hid (cells3 w2 w.heap.size (v0 := .int .i64 ((i : Int) + 1)) (v1 := .int .i64 b) (v2 := .int .i64 z) a0 a1 a2)
  clear hR hk hb2 hb0 hL
  go_wp2_with fail
  obtain ⟨y0, y1, y2⟩ := y.out
  refine bodyPost_ret (v := .tuple #[spV ⟨(i : Int) + 1, b, z⟩, .int .i64 0]) (by simp [results, Try.results17, go_sem, spV, y0, y1, y2]) rfl ⟨rfl, ?_, ?_⟩
  · exact hR'.out.other ((Keeps.refl (· = w.heap.size) _).set3 (.inl rfl) _ _ _ _ _ _) (fun e => n3 e) (fun e => n2 e)
  · exact (((((Keeps.refl Nil w).alloc zblk).trans hk1.out).mono (fun _ h => h.elim)).trans hk2.out).set3 (.inr (Nat.le_refl _)) _ _ _ _ _ _
theorem RIn.delete {w : World} {rb ob : Nat} {keys : Int} {T : List Spc} (h : RIn w rb ob keys T) (hok : TabOk keys T) (hk : keys ≤ 4096) (id : Int) :
    Calls Try.prog 17 #[.pointer (some ⟨rb, 0, none⟩), .int .i64 id] w fun e w' => e = .returned (.tuple #[spV (tat T id), .int .i64 (ferr (tat T id))]) ∧ RIn w' rb ob keys (tdel T id) ∧ Keeps (· = ob) w w' := by
  by_cases hs : tat T id = sp0
  · rw [hs, tdel_none hok hs]
    refine (rdelete_none h hok hk hs).mono ?_
    rintro e w' ⟨rfl, hk⟩
    exact ⟨rfl, h.same hk, hk.mono (fun _ h => h.elim)⟩
  · rcases id_cases id with h1 | h1 | ⟨i, hi, rfl⟩
    · exact absurd (tat_out (.inl h1)) hs
    · exact absurd (tat_out (.inr h1)) hs
    · have hd : tdel T ((i : Int) + 1) = T.set i sp0 := by unfold tdel; rw [if_pos (by omega), show ((i : Int) + 1 - 1).toNat = i by omega]
      obtain ⟨h1, _⟩ := tat_id hok hi hs
      rw [hd]
      unfold ferr
      rw [if_neg hs]
      obtain ⟨⟨a, b, c⟩, hse⟩ : ∃ s, tat T ((i : Int) + 1) = s := ⟨_, rfl⟩
      rw [hse] at h1 ⊢
      simp only at h1
      subst h1
      exact rdelete_in h hok hk hi hse
end Go.Proofs.Ytmdgbcbnciaikaa
