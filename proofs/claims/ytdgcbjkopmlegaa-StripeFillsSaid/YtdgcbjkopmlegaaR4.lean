/- stripe: the mending of one leaf: the walk -/
import Derived.Test.YtdgcbjkopmlegaaR3
namespace Go.Proofs.Ytdgcbjkopmlegaa
open Go.RowKit

attribute [local go_sem ↓] Go.wp_at_zero Go.wp_at_succ
/-- GenOut, its numbers as letters -/
def GenZ (W : World) (x : Lf) (z1 z2 : Nat) (er : Int) (e : Ending) (w' : World) : Prop :=
  ∃ sa sc ba bc Z, e = .returned (.tuple #[.agg #[.slice sa z1 sc, .slice ba z2 bc], .int .i64 er]) ∧ LfZ w' sa ba x Z ∧ (∀ k, Z k → W.heap.size ≤ k) ∧ Keeps Nil W w'
theorem GenOut.letters {W w' : World} {r : Option Lf} {e : Ending} {x : Lf} {z1 z2 : Nat} {er : Int} (h : GenOut W r e w') (hx : lfOf r = x) (h1 : x.sl.length = z1) (h2 : x.se.length = z2) (h3 : errOf r = er) : GenZ W x z1 z2 er e w' := by
  subst hx h1 h2 h3
  obtain ⟨sa, sc, ba, bc, rfl, ⟨Z, hA, hZ⟩, hk⟩ := h
  exact ⟨sa, sc, ba, bc, Z, rfl, hA, hZ, hk⟩
theorem GenZ.out {W w' : World} {r : Option Lf} {e : Ending} {x : Lf} {z1 z2 : Nat} {er : Int} (h : GenZ W x z1 z2 er e w') (hx : lfOf r = x) (h1 : x.sl.length = z1) (h2 : x.se.length = z2) (h3 : errOf r = er) : GenOut W r e w' := by
  subst hx h1 h2 h3
  obtain ⟨sa, sc, ba, bc, Z, rfl, hA, hZ, hk⟩ := h
  exact ⟨sa, sc, ba, bc, rfl, ⟨Z, hA, hZ⟩, hk⟩
theorem hp_at0 {X : World} {o : Obj} {n : Nat} (h : X.heap.size = n) : (X.alloc o).heap[n]? = some o := by subst h; exact heap_alloc_new X o
theorem hp_at {X : World} {o : Obj} {n : Nat} (h : X.heap.size = n) : (X.alloc o).drew.heap[n]? = some o := by subst h; exact heap_alloc_new X o

set_option maxHeartbeats 16000000 in
set_option maxRecDepth 100000 in
theorem mend21_good {w : World} (S0 N0 T : Int) (k : Nat) {b off : Nat} {cap : Nat} {Ls : List Lf} (hL : LeavesAt w (some ⟨b, off, none⟩) Ls) (hok : LeavesOk Ls) (hl : Ls.length * 48 ≤ 140737488355328) (hlc : Ls.length ≤ cap) (hc63 : cap ≤ 9223372036854775807) (hk : k < Ls.length) (h2 : 2 ≤ Ls.length) :
    Calls Try.prog 21 #[.agg #[.int .i64 S0, .int .i64 N0, .int .i64 T], .slice (some ⟨b, off, none⟩) Ls.length cap, .int .i64 k] w (GenOut w (sumR S0 N0 (lessOne Ls k))) := by
  obtain ⟨x, hx⟩ : ∃ x, lfOf (sumR S0 N0 (lessOne Ls k)) = x := ⟨_, rfl⟩
  obtain ⟨z1, hz1⟩ : ∃ z1, x.sl.length = z1 := ⟨_, rfl⟩
  obtain ⟨z2, hz2'⟩ : ∃ z2, x.se.length = z2 := ⟨_, rfl⟩
  obtain ⟨er, her⟩ : ∃ er, errOf (sumR S0 N0 (lessOne Ls k)) = er := ⟨_, rfl⟩
  refine Calls.mono ?_ (fun e w' (h : GenZ w x z1 z2 er e w') => h.out hx hz1 hz2' her)
  obtain ⟨L, hmap, hLh⟩ := hL.lh
  have hlen : L.length = Ls.length := by rw [← hmap]; simp
  obtain ⟨n, hn⟩ : ∃ n, Ls.length = n := ⟨_, rfl⟩
  rw [hn] at hl hk h2 hlen hlc ⊢
  have hm1 : k + (n - (k + 1)) = n - 1 := by omega
  obtain ⟨A, hA, hnews⟩ : ∃ A : Addr, (if cap = k + 1 then some (⟨b, off, none⟩ : Addr) else some ⟨b, off + (k + 1) * 2, none⟩) = some A ∧ Src w (some A) 2 (n - (k + 1)) (recs lhC (L.drop (k + 1))) := by
    rw [← hlen]
    by_cases hc : cap = k + 1
    · exact ⟨⟨b, off, none⟩, by simp [hc], hLh.drop (by omega) (by omega)⟩
    · exact ⟨⟨b, off + (k + 1) * 2, none⟩, by simp [hc], hLh.drop (by omega) (fun _ => rfl)⟩
  have hnews' := Lib.hid hnews
  have htk := Lib.hid (hLh.take (i := k) (by omega))
  have hS := Lib.hid (show ∀ (W : World) (a' : Option Addr) (cap' : Nat), RecRow lhC 2 W 35 a' cap' (L.take k ++ L.drop (k + 1)) → Keeps Nil w W → Calls Try.prog 15 #[.agg #[.int .i64 S0, .int .i64 N0, .int .i64 T], .slice a' (k + (n - (k + 1))) cap'] W (GenZ W x z1 z2 er) from fun W a' cap' hr hkw => by
    refine Calls.mono ?_ (fun e w' (h : GenOut W (sumR S0 N0 (lessOne Ls k)) e w') => h.letters hx hz1 hz2' her)
    have h1 := leaves_row (L := lessOne L k) hr (fun x hx => (hLh.nil hkw).lf x (lessOne_mem hx))
    rw [lessOne_map, hmap] at h1
    have e : (lessOne Ls k).length = n - 1 := by rw [lessOne_len (by omega), hn]
    have := sum15_any S0 N0 T (cap := cap') h1 (fun x hx => hok x (lessOne_mem hx)) (by omega)
    rwa [e, ← hm1] at this)
  have hlen' := Lib.hid hlen
  have d1 : decide ((k : Int) < 0) = false := decide_eq_false (by omega)
  have d2 : ¬ n ≤ k := by omega
  have d3 : decide ((n : Int) < 2) = false := decide_eq_false (by omega)
  have p0 : (0 : Int) ≤ (k : Int) + 1 := by omega
  have p1 : (k : Int) + 1 ≤ (n : Int) := by omega
  have p2 : ((k : Int) + 1).toNat = k + 1 := by omega
  have p3 : (k : Int) ≤ (n : Int) := by omega
  have p4 : (k : Int) ≤ (cap : Int) := by omega
  have p5 : (k : Int) + 1 ≤ (cap : Int) := by omega
  have p6 : (0 : Int) ≤ (k : Int) := by omega
  have p7 : (n : Int) ≤ (cap : Int) := by omega
  have q0 : IntKind.i64.wrap ((k : Int) + 1) = (k : Int) + 1 := by rw [IntKind.wrap_i64]; omega
  have b0 := Lib.hid (heap_alloc_old (o' := .cells #[.slice none 0 0, .slice none 0 0] 35) (heap_alloc_new w (.cells #[.int .i64 S0, .int .i64 N0, .int .i64 T] 27)))
  have b1 := Lib.hid (heap_alloc_new (w.alloc (.cells #[.int .i64 S0, .int .i64 N0, .int .i64 T] 27)) (.cells #[.slice none 0 0, .slice none 0 0] 35))
  have kb := Lib.hid (((Keeps.refl Nil w).alloc (.cells #[.int .i64 S0, .int .i64 N0, .int .i64 T] 27)).alloc (.cells #[.slice none 0 0, .slice none 0 0] 35))
  have hCo := Lib.hid (show ∀ (W : World) (p : Nat), Keeps Nil w W → W.heap[p]? = some (.cells #[.slice (some ⟨b, off, none⟩) k cap, .slice (some A) (n - (k + 1)) (cap - (k + 1))] 28) → Calls Try.prog 28 #[.slice (some ⟨p, 0, none⟩) 2 2] W fun e w' => ∃ a' cap', e = .returned (.slice a' (k + (n - (k + 1))) cap') ∧ RecRow lhC 2 w' 35 a' cap' (L.take k ++ L.drop (k + 1)) ∧ Keeps Nil W w' from fun W p hkw hp => concat28 (cell_of_heap hp 0) (cell_of_heap hp 1) (htk.out.keeps hkw) (hnews'.out.keeps hkw) (fun h => by cases h) (fun h => by cases h) (by have := hlen'.out; simp; omega) (by have := hlen'.out; simp; omega) (by omega) (by omega))
  clear hmap hL hok hLh hlen hn hnews hl h2 hk hm1 hx hz1 hz2' her
  go_enter Try.func21, Try.ntmps21
  have kb2 := kb.out
  have b02 := b0.out
  have b12 := b1.out
  go_wp2_with fail
  obtain ⟨w2, hw2⟩ : ∃ w2, (w.alloc (.cells #[.int .i64 S0, .int .i64 N0, .int .i64 T] 27)).alloc (.cells #[.slice none 0 0, .slice none 0 0] 35) = w2 := ⟨_, rfl⟩
  rw [hw2] at b02 b12 kb2 ⊢
  rw [heap_alloc_size] at b12
  have hz2 : w2.heap.size = w.heap.size + 1 + 1 := by rw [← hw2]; simp
  have kb2' := Lib.hid kb2
  have b12' := Lib.hid b12
  have l0 := cell_of_heap b02 0
  have l1 := cell_of_heap b02 1
  have l2 := cell_of_heap b02 2
  simp at l0 l1 l2
  have hLC := Lib.hid (show ∀ W, Keeps (· = w.heap.size + 1) w2 W → W.cell? ⟨w.heap.size, 0, none⟩ = some (.int .i64 S0) ∧ W.cell? ⟨w.heap.size, 1, none⟩ = some (.int .i64 N0) ∧ W.cell? ⟨w.heap.size, 2, none⟩ = some (.int .i64 T) from fun W hk => ⟨hk.cell l0 (by omega), hk.cell l1 (by omega), hk.cell l2 (by omega)⟩)
  clear b0 b1 kb b02 b12 kb2 hw2 l0 l1 l2
  go_region_held3 (fun W => W.cell? ⟨w.heap.size, 0, none⟩ = some (.int .i64 S0) ∧ W.cell? ⟨w.heap.size, 1, none⟩ = some (.int .i64 N0) ∧ W.cell? ⟨w.heap.size, 2, none⟩ = some (.int .i64 T)) ((refine hLC.out _ ?_; (repeat (first | exact Keeps.refl _ _ | exact k7'.out.mono (fun _ h => h.elim) | exact k6'.out.mono (fun _ h => h.elim) | with_reducible refine Keeps.drew ?_ | with_reducible refine Keeps.alloc ?_ _ | refine Keeps.setCell (p := ⟨_, _, none⟩) ?_ (.inl (by rfl)) _)))) (first | (go_at_call 15; refine (hS.out _ _ _ hr6'.out (kb2'.out.trans k6'.out)).mono ?_; rintro e w7 ⟨sa, sc, ba, bc, Z, rfl, hA, hZ, hk7⟩; have hA' := Lib.hid hA; have hZ' := Lib.hid hZ; have k7' := Lib.hid (k6'.out.trans hk7); have f2 := k7'.out.heap b12'.out (fun h => h); have vf0 := frozen_of_heap f2 0; have vf1 := frozen_of_heap f2 1; have v0 := cell_of_heap f2 0; have v1 := cell_of_heap f2 1; simp at v0 v1; have vl := lt_of_heap f2; clear hA hZ hk7 f2) | (go_at_call 28; refine (hCo.out _ _ ?_ ?_).mono ?_; (repeat (first | exact kb2'.out | with_reducible refine Keeps.drew ?_ | with_reducible refine Keeps.alloc ?_ _)); (first | exact hp_at0 hz2 | exact hp_at hz2); rintro e w6 ⟨a6, cap6, rfl, hr6, hk6⟩; have hr6' := Lib.hid hr6; have k6' : Hid (Keeps Nil w2 w6) := Keeps.trans (by repeat (first | exact Keeps.refl _ _ | with_reducible refine Keeps.drew ?_ | with_reducible refine Keeps.alloc ?_ _)) hk6; clear hr6 hk6))
  have kE : Keeps (· = w.heap.size + 1) w7 ((w7.setCell ⟨w.heap.size + 1, 0, none⟩ (.slice sa z1 sc)).setCell ⟨w.heap.size + 1, 1, none⟩ (.slice ba z2 bc)) := ((Keeps.refl (· = w.heap.size + 1) w7).setCell (.inl rfl) _).setCell (.inl rfl) _
  have hs6 := k6'.out.size
  go_wp2_with fail
  refine bodyPost_ret (v := .tuple #[.agg #[.slice sa z1 sc, .slice ba z2 bc], .int .i64 er]) (by simp [results, Try.results21, go_sem, v0, v1]) rfl ?_
  exact ⟨sa, sc, ba, bc, Z, rfl, hA'.out.keeps kE (fun q hq e => by have := hZ'.out q hq; omega), fun q hq => by have := hZ'.out q hq; omega, (kb2'.out.trans k7'.out).trans' kE (fun j hj => .inr (by omega))⟩
end Go.Proofs.Ytdgcbjkopmlegaa
