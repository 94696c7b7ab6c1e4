/- walks of find, Get, Len, New -/
import Derived.Test.YtnickcjkipemmaaState
namespace Go.Proofs.Ytnickcjkipemmaa
open Go.RowKit

attribute [local go_sem ↓] Go.wp_at_zero Go.wp_at_succ

theorem zero85 (W : World) : (zeroValue 85).run Try.prog W = .ok (.pointer none) W := by kernel_rfl

theorem Lru.get_in {w : World} {cb mb : Nat} {most : Int} {S : List Node} (h : LruB w cb mb most S) {s : Node} (hs : s ∈ S) : ∃ f, MapAt w mb f ∧ f.length = S.length ∧ mget s.2.key f = some (nptr s.1) := by
  obtain ⟨f, h1, _, h2, h3⟩ := h.map
  exact ⟨f, h1, h2, (h3 _ _).2 ⟨s, hs, rfl, rfl⟩⟩
theorem Lru.get_out {w : World} {cb mb : Nat} {most : Int} {S : List Node} (h : LruB w cb mb most S) {k : Int} (hs : ∀ s ∈ S, s.2.key ≠ k) : ∃ f, MapAt w mb f ∧ f.length = S.length ∧ mget k f = none := by
  obtain ⟨f, h1, _, h2, h3⟩ := h.map
  refine ⟨f, h1, h2, ?_⟩
  cases hg : mget k f with
  | none => rfl
  | some v =>
    obtain ⟨s, hs', hk, _⟩ := (h3 _ _).1 hg
    exact absurd hk (hs s hs')

set_option maxHeartbeats 1000000 in
theorem find_in {w : World} {cb mb : Nat} {most : Int} {A B : List Node} {s : Node} (h : Lru w cb mb most (A ++ s :: B)) :
    Calls Try.prog 40 #[.pointer (some ⟨cb, 0, none⟩), .int .i64 s.2.key] w fun e w' => e = .returned (.tuple #[.pointer (some ⟨s.1, 0, none⟩), .bool true]) ∧ Lru w' cb mb most (s :: (A ++ B)) ∧ Keeps (own cb mb (A ++ s :: B)) w w' ∧ w'.heap.size = w.heap.size := by
  obtain ⟨f, hm, _, hget⟩ := Lru.get_in h.toLruB (s := s) (by simp)
  obtain ⟨u, v, hu, hv, c1, c2, ⟨yu, cu⟩, ⟨yv, cv⟩, hne, hus, hvs, hset, hseq, hB⟩ := lru_out h
  have e1 : (A ++ s :: B).map lk = A.map lk ++ lk s :: B.map lk := by simp
  have fu := Lru.fro' h (u := u) (by rw [e1]; rw [List.map_append] at hu; simp only [List.mem_cons, List.mem_append] at hu ⊢; rcases hu with h | h | h <;> simp [h]) (u.2 + 4)
  have fv := Lru.fro' h (u := v) (by rw [e1]; rw [List.map_append] at hv; simp only [List.mem_cons, List.mem_append] at hv ⊢; rcases hv with h | h | h <;> simp [h]) (v.2 + 3)
  have hlk := tie_links (cb := cb) (S := A ++ s :: B) (u := u) (v := v) (by rw [e1]; rw [List.map_append] at hu; simp only [List.mem_cons, List.mem_append] at hu ⊢; rcases hu with h | h | h <;> simp [h]) (by rw [e1]; rw [List.map_append] at hv; simp only [List.mem_cons, List.mem_append] at hv ⊢; rcases hv with h | h | h <;> simp [h])
  have hkeep1 := Lib.hid (Links.keeps (mb := mb) hset hlk)
  have hget' := Lib.hid hget
  have hm' := Lib.hid hm
  have hat := h.at_
  have h3 : (w.cell? ⟨s.1, 3, none⟩).isSome = true := by have := c1; rw [Nat.zero_add] at this; rw [this]; rfl
  have h4 : (w.cell? ⟨s.1, 4, none⟩).isSome = true := by have := c2; rw [Nat.zero_add] at this; rw [this]; rfl
  have h3' := Lib.hid ((hset.there s.1 3).trans h3)
  have h4' := Lib.hid ((hset.there s.1 4).trans h4)
  have hC := Lib.hid (out_any s.1 0 u.1 u.2 v.1 v.2 w c1 c2 yu yv cu cv hne hus hvs fu fv)
  have hsz := Lib.hid hset.size
  have hseq' := Lib.hid hseq
  have hp : (A ++ s :: B).Perm (s :: (A ++ B)) := List.perm_middle
  have hB' := Lib.hid (hB.perm hp)
  clear hset hB hseq hlk hget hm h c1 c2 cu cv fu fv h3 h4 e1 hne hus hvs
  go_enter Try.func40, Try.ntmps40
  go_wp2_with (at_lookup; refine wpList_look_in _ rfl _ _ 84 rfl 3 85 Try.underlying84 Try.underlying3 zero85 mb f rfl (by exact hm'.out) _ rfl (.pointer (some ⟨s.1, 0, none⟩)) (by exact hget'.out) ?_)
  refine (hC.out).mono ?_
  rintro e w1 ⟨rfl, hw1⟩
  rw [← hw1] at hkeep1 h3' h4' hsz hseq' hB'
  clear hw1
  obtain ⟨v2, hv2, c6, ⟨y3, x3⟩, ⟨y4, x4⟩, ⟨yv2, cv2⟩, hcs, hvs2, hvc, hL, hK, hZ⟩ := lru_first hB'.out hseq'.out h3'.out h4'.out
  have f1 := hB'.out.fro cb (.inl rfl) 6
  have f2 := hB'.out.fro s.1 (.inr (by simp))
  have f3 : w1.frozen? ⟨v2.1, v2.2 + 3, none⟩ = false := hB'.out.fro v2.1 (by
    rcases mem_links hv2 with rfl | ⟨_, hm⟩
    · exact .inl rfl
    · exact .inr (by rw [List.map_cons]; exact List.mem_cons_of_mem _ hm)) _
  have hC2 := Lib.hid (first_any cb s.1 v2.1 v2.2 w1 y3 y4 yv2 c6 x3 x4 cv2 (f2 3) (f2 4) f1 f3 hcs hvs2 hvc)
  have hL' := Lib.hid hL
  have hK' := Lib.hid hK
  have hZ' := Lib.hid hZ
  clear hL hK hZ c6 x3 x4 cv2 f1 f2 f3 hcs hvs2 hvc
  go_wp2_with fail
  refine (hC2.out).mono ?_
  rintro e w2 ⟨rfl, hw2⟩
  rw [← hw2] at hL' hK' hZ'
  clear hw2
  go_wp2_with fail
  go_ret2
  exact ⟨rfl, hL'.out, hkeep1.out.trans (hK'.out.mono (fun k hk => (own_perm hp).2 hk)), hZ'.out.trans hsz.out⟩

set_option maxHeartbeats 1000000 in
theorem find_out {w : World} {cb mb : Nat} {most : Int} {S : List Node} (h : Lru w cb mb most S) {k : Int} (hk : ∀ s ∈ S, s.2.key ≠ k) :
    Calls Try.prog 40 #[.pointer (some ⟨cb, 0, none⟩), .int .i64 k] w fun e w' => e = .returned (.tuple #[.pointer none, .bool false]) ∧ w = w' := by
  obtain ⟨f, hm, _, hget⟩ := Lru.get_out h.toLruB hk
  have hget' := Lib.hid hget
  have hm' := Lib.hid hm
  have hat := h.at_
  clear hget hm h hk
  go_enter Try.func40, Try.ntmps40
  go_wp2_with (at_lookup; refine wpList_look_out _ rfl _ _ 84 rfl 3 85 Try.underlying84 Try.underlying3 zero85 mb f rfl (by exact hm'.out) _ rfl (by exact hget'.out) ?_)
  go_ret2
  exact ⟨rfl, rfl⟩
end Go.Proofs.Ytnickcjkipemmaa
