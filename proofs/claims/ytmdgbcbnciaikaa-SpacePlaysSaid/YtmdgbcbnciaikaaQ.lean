/- Apply -/
import Derived.Test.YtmdgbcbnciaikaaO
import Derived.Test.YtmdgbcbnciaikaaP
namespace Go.Proofs.Ytmdgbcbnciaikaa
open Go.RowKit

attribute [local go_sem ↓] Go.wp_at_zero Go.wp_at_succ

/-- the space of a record may be -/
def fineR (keys : Int) (T : List Spc) (r : Rec) : Bool := mayR keys T r && !(spAll T).any (over (spOf r))
def apE (keys : Int) (T : List Spc) (r : Rec) : Int := if r.kind = 4 then (if 16 < r.a then 140 else ferr (tat T r.a)) else if r.kind = 3 ∧ fineR keys T r = true then 0 else 81
def apT (keys : Int) (T : List Spc) (r : Rec) : List Spc := if r.kind = 4 then (if 16 < r.a then T else tdel T r.a) else if r.kind = 3 ∧ fineR keys T r = true then T.set (r.a - 1).toNat (spOf r) else T

theorem made_no {w : World} {tb : Nat} {E : TypeId} {keys : Int} {T : List Spc} (h : TabAt w tb E keys T) (hok : TabOk keys T) (hk0 : 1 ≤ keys) (hkm : keys ≤ 4096) {r : Rec} (hr : RecOk r) (hn : fineR keys T r = false) :
    Calls Try.prog 34 #[.pointer (some ⟨tb, 0, none⟩), recV r] w fun e w' => ∃ s, e = .returned (.tuple #[spV s, .bool false]) ∧ Keeps Nil w w' := by
  cases hm : mayR keys T r
  · exact made_bad h hok hk0 hkm hr hm
  · have h1 := hm
    unfold mayR at h1
    obtain ⟨p1, p2, p3, p4, p5, p6⟩ := of_decide_eq_true h1
    unfold fineR at hn
    rw [hm] at hn
    obtain ⟨k, s, a, b, c⟩ := r
    simp only at p1 p2 p3 p4 p5 p6
    obtain ⟨i, hi, rfl⟩ : ∃ i : Nat, i < 16 ∧ a = (i : Int) + 1 := ⟨(a - 1).toNat, by omega, by omega⟩
    have hg := tat_get hok.len hi
    rw [p6] at hg
    refine (made_good (k := k) (s := s) h hok hk0 hkm hi p3 p4 hr.c0 p5 hg).mono ?_
    rintro e w' ⟨rfl, hk⟩
    have h2 : (!(spAll T).any (over ⟨(i : Int) + 1, c, b⟩)) = false := by simpa [spOf] using hn
    rw [h2]
    exact ⟨_, rfl, hk⟩
theorem made_yes {w : World} {tb : Nat} {E : TypeId} {keys : Int} {T : List Spc} (h : TabAt w tb E keys T) (hok : TabOk keys T) (hk0 : 1 ≤ keys) (hkm : keys ≤ 4096) {r : Rec} (hr : RecOk r) (hn : fineR keys T r = true) :
    Calls Try.prog 34 #[.pointer (some ⟨tb, 0, none⟩), recV r] w fun e w' => e = .returned (.tuple #[spV (spOf r), .bool true]) ∧ Keeps Nil w w' := by
  unfold fineR at hn
  rw [Bool.and_eq_true] at hn
  obtain ⟨hm, hn⟩ := hn
  have h1 := hm
  unfold mayR at h1
  obtain ⟨p1, p2, p3, p4, p5, p6⟩ := of_decide_eq_true h1
  obtain ⟨k, s, a, b, c⟩ := r
  simp only at p1 p2 p3 p4 p5 p6
  obtain ⟨i, hi, rfl⟩ : ∃ i : Nat, i < 16 ∧ a = (i : Int) + 1 := ⟨(a - 1).toNat, by omega, by omega⟩
  have hg := tat_get hok.len hi
  rw [p6] at hg
  refine (made_good (k := k) (s := s) h hok hk0 hkm hi p3 p4 hr.c0 p5 hg).mono ?_
  rintro e w' ⟨rfl, hk⟩
  have h2 : (!(spAll T).any (over ⟨(i : Int) + 1, c, b⟩)) = true := by simpa [spOf] using hn
  rw [h2]
  exact ⟨rfl, hk⟩

theorem over_apart {s x : Spc} (h : over s x = false) : Apart s x := by
  unfold over at h
  unfold Apart
  rw [Bool.and_eq_false_iff] at h
  rcases h with h | h
  · have := of_decide_eq_false h; left; omega
  · have := of_decide_eq_false h; right; omega
theorem apT_ok {keys : Int} {T : List Spc} (hok : TabOk keys T) {r : Rec} (hr : RecOk r) : TabOk keys (apT keys T r) := by
  unfold apT
  split
  · split
    · exact hok
    · exact tdel_ok hok _
  · split
    · rename_i hf
      obtain ⟨_, hf⟩ := hf
      unfold fineR at hf
      rw [Bool.and_eq_true] at hf
      obtain ⟨hm, hn⟩ := hf
      unfold mayR at hm
      obtain ⟨p1, p2, p3, p4, p5, p6⟩ := of_decide_eq_true hm
      obtain ⟨i, hi, ha⟩ : ∃ i : Nat, i < 16 ∧ r.a = (i : Int) + 1 := ⟨(r.a - 1).toNat, by omega, by omega⟩
      have hg := tat_get hok.len hi
      rw [← ha, p6] at hg
      rw [show (r.a - 1).toNat = i by omega]
      refine hok.put hg ha ⟨p3, hr.c0, by show r.c + r.b ≤ keys; omega⟩ (fun t ht => ?_)
      rw [Bool.not_eq_true', List.any_eq_false] at hn
      exact over_apart (by simpa using hn t ht)
    · exact hok

set_option maxHeartbeats 8000000 in
theorem apply_any {w : World} {tb : Nat} {keys : Int} {T : List Spc} {E : TypeId} (h : TabAt w tb E keys T) (hok : TabOk keys T) (hk0 : 1 ≤ keys) (hkm : keys ≤ 4096) {r : Rec} (hr : RecOk r) :
    Calls Try.prog 21 #[.pointer (some ⟨tb, 0, none⟩), recV r] w fun e w' => e = .returned (.int .i64 (apE keys T r)) ∧ TabAt w' tb E keys (apT keys T r) ∧ Keeps (· = tb) w w' := by
  have htb := lt_of_heap h
  have h1 := fun o => h.keeps ((Keeps.refl Nil w).alloc o) (fun h => h)
  have hM := Lib.hid (fun o (hf : fineR keys T r = true) => made_yes (h1 o) hok hk0 hkm hr hf)
  have hMn := Lib.hid (fun o (hf : fineR keys T r = false) => made_no (h1 o) hok hk0 hkm hr hf)
  have hD := Lib.hid (fun o => delete_any (h1 o) hok r.a)
  have h' := Lib.hid h
  by_cases hk4 : r.kind = 4
  · have e4 : (r.kind == 4) = true := by simpa using hk4
    by_cases ha : 16 < r.a
    · have eE : apE keys T r = 140 := by unfold apE; rw [if_pos hk4, if_pos ha]
      have eT : apT keys T r = T := by unfold apT; rw [if_pos hk4, if_pos ha]
      rw [eE, eT]
      obtain ⟨k, s, a, b, c⟩ := r
      simp only at ha e4 hk4
      simp only [recV]
      clear eE eT hr hok hM hMn hD h h1 e4
      subst hk4
      go_enter Try.func21, Try.ntmps21
      go_wp2_with fail
      go_ret
      exact ⟨rfl, h'.out.keeps ((Keeps.refl Nil w).alloc _) (fun h => h), (Keeps.refl _ w).alloc _⟩
    · have eE : apE keys T r = ferr (tat T r.a) := by unfold apE; rw [if_pos hk4, if_neg ha]
      have eT : apT keys T r = tdel T r.a := by unfold apT; rw [if_pos hk4, if_neg ha]
      rw [eE, eT]
      have x1 : IntKind.i64.wrap r.a = r.a := by have := hr.a0; simp [IntKind.wrap, IntKind.signed, IntKind.bits]; omega
      have hD2 := Lib.hid (hD.out (.cells #[.int .i64 r.kind, .int .u64 r.seq, .int .u64 r.a, .int .u64 r.b, .int .u64 r.c] 48))
      obtain ⟨k, s, a, b, c⟩ := r
      simp only at ha e4 hk4 x1 hD2 ⊢
      simp only [recV]
      generalize ferr (tat T a) = fe at hD2 ⊢
      generalize tat T a = sa at hD2
      generalize tdel T a = T2 at hD2 ⊢
      obtain ⟨u, v, y⟩ := sa
      simp only [spV] at hD2
      clear eE eT hr hok hM hMn hD h h1 e4
      subst hk4
      go_enter Try.func21, Try.ntmps21
      go_wp2_with fail
      refine (hD2.out).mono ?_
      rintro e w2 ⟨rfl, hT, hk⟩
      have hT' := Lib.hid hT
      have hk' := Lib.hid hk
      clear hT hk hD2
      go_wp2_with fail
      go_ret
      exact ⟨rfl, hT'.out.keeps ((Keeps.refl Nil w2).alloc _) (fun h => h), (((Keeps.refl _ w).alloc _).trans hk'.out).alloc _⟩
  · have e4 : (r.kind == 4) = false := by simpa using hk4
    by_cases hk3 : r.kind = 3
    · cases hf : fineR keys T r
      · have eE : apE keys T r = 81 := by unfold apE; rw [if_neg hk4, if_neg (by rw [hf]; simp)]
        have eT : apT keys T r = T := by unfold apT; rw [if_neg hk4, if_neg (by rw [hf]; simp)]
        rw [eE, eT]
        have hM2 := Lib.hid (hMn.out (.cells #[.int .i64 r.kind, .int .u64 r.seq, .int .u64 r.a, .int .u64 r.b, .int .u64 r.c] 48) hf)
        obtain ⟨k, s, a, b, c⟩ := r
        simp only at hk3 e4 hk4 hM2 ⊢
        simp only [recV] at hM2 ⊢
        clear eE eT hr hok hM hMn hD h h1 e4 hk4 hf
        subst hk3
        go_enter Try.func21, Try.ntmps21
        go_wp2_with fail
        refine (hM2.out).mono ?_
        rintro e w2 ⟨⟨u, v, y⟩, rfl, hk⟩
        have hk' := Lib.hid hk
        clear hk hM2
        simp only [spV]
        go_wp2_with fail
        go_ret
        exact ⟨rfl, h'.out.keeps ((((Keeps.refl Nil w).alloc _).trans hk'.out).alloc _) (fun h => h), ((((Keeps.refl Nil w).alloc _).trans hk'.out).alloc _).mono (fun _ h => h.elim)⟩
      · have eE : apE keys T r = 0 := by unfold apE; rw [if_neg hk4, if_pos ⟨hk3, hf⟩]
        have eT : apT keys T r = T.set (r.a - 1).toNat (spOf r) := by unfold apT; rw [if_neg hk4, if_pos ⟨hk3, hf⟩]
        rw [eE, eT]
        have hM2 := Lib.hid (hM.out (.cells #[.int .i64 r.kind, .int .u64 r.seq, .int .u64 r.a, .int .u64 r.b, .int .u64 r.c] 48) hf)
        have hf2 := hf
        unfold fineR mayR at hf2
        rw [Bool.and_eq_true] at hf2
        obtain ⟨p1, p2, _, _, _, _⟩ := of_decide_eq_true hf2.1
        have hlen := hok.len
        obtain ⟨k, s, a, b, c⟩ := r
        simp only at hk3 e4 hk4 hM2 p1 p2 ⊢
        obtain ⟨i, hi, rfl⟩ : ∃ i : Nat, i < 16 ∧ a = (i : Int) + 1 := ⟨(a - 1).toNat, by omega, by omega⟩
        rw [show ((i : Int) + 1 - 1).toNat = i by omega]
        obtain ⟨so, hs⟩ : ∃ so, T[i]? = some so := ⟨_, List.getElem?_eq_getElem (by omega)⟩
        have hs' := Lib.hid hs
        simp only [recV, spOf, spV] at hM2 ⊢
        have x1 : IntKind.i64.wrap ((i : Int) + 1 - 1) = (i : Int) := by rw [show (i : Int) + 1 - 1 = i by omega]; simp [IntKind.wrap, IntKind.signed, IntKind.bits]; omega
        have g1 : (0 : Int) ≤ (i : Int) := by omega
        have g2 : (i : Int) < 16 := by omega
        clear eE eT hr hok hM hMn hD h h1 e4 hk4 hf hf2 p1 p2 hs hlen
        subst hk3
        go_enter Try.func21, Try.ntmps21
        go_wp2_with fail
        refine (hM2.out).mono ?_
        rintro e w2 ⟨rfl, hk⟩
        have hk' := Lib.hid hk
        clear hk hM2
        go_wp2_with fail
        have hW : Keeps Nil w (w2.alloc (.cells #[.int .i64 ((i : Int) + 1), .int .i64 c, .int .i64 b] 30)) := ((Keeps.refl Nil w).alloc _).trans (hk'.out.alloc _)
        have hn0 := heap_alloc_new w2 (.cells #[.int .i64 ((i : Int) + 1), .int .i64 c, .int .i64 b] 30)
        have hw2 := hk'.out.size
        obtain ⟨W0, hW0⟩ : ∃ W0, w2.alloc (.cells #[.int .i64 ((i : Int) + 1), .int .i64 c, .int .i64 b] 30) = W0 := ⟨_, rfl⟩
        rw [hW0] at hW hn0 ⊢
        have hT := h'.out.keeps hW (fun h => h)
        obtain ⟨t0, t1, t2⟩ := hT.cells hs'.out
        have u0 := hT.frozen (1 + i * 3)
        have u1 := hT.frozen (1 + i * 3 + 1)
        have u2 := hT.frozen (1 + i * 3 + 2)
        have hT' := Lib.hid (TabAt.set (show TabAt W0.drew tb E keys T from hT) hs'.out ⟨(i : Int) + 1, c, b⟩)
        have hWd := Lib.hid (Keeps.set3 (S := (· = tb)) (g := tb) ((hW.drew).mono (fun _ h => h.elim)) (.inl rfl) (1 + i * 3) (1 + i * 3 + 1) (1 + i * 3 + 2) (.int .i64 ((i : Int) + 1)) (.int .i64 c) (.int .i64 b))
        have hne : w2.heap.size ≠ tb := by simp at hw2; omega
        have hLC := Lib.hid (show ∀ W, Keeps (· = tb) W0 W → W.cell? ⟨w2.heap.size, 0, none⟩ = some (.int .i64 ((i : Int) + 1)) ∧ W.cell? ⟨w2.heap.size, 1, none⟩ = some (.int .i64 c) ∧ W.cell? ⟨w2.heap.size, 2, none⟩ = some (.int .i64 b) from fun W hW => by
          have h := hW.heap hn0 hne
          exact ⟨cell_of_heap h 0, cell_of_heap h 1, cell_of_heap h 2⟩)
        have x2 : IntKind.i64.wrap (i : Int) = (i : Int) := by simp [IntKind.wrap, IntKind.signed, IntKind.bits]; omega
        clear hW hn0 hw2 hW0 hT hne
        go_region_held3 (fun W => W.cell? ⟨w2.heap.size, 0, none⟩ = some (.int .i64 ((i : Int) + 1)) ∧ W.cell? ⟨w2.heap.size, 1, none⟩ = some (.int .i64 c) ∧ W.cell? ⟨w2.heap.size, 2, none⟩ = some (.int .i64 b)) (first | exact hLC.out _ (Keeps.refl _ _).drew | exact hLC.out _ (Keeps.set3 (S := (· = tb)) (Keeps.refl _ _).drew (.inl rfl) _ _ _ _ _ _)) (fail)
        all_goals (
          go_wp2_with fail
          go_ret
          exact ⟨rfl, hT'.out, hWd.out⟩)
    · have e3 : (r.kind == 3) = false := by simpa using hk3
      have eE : apE keys T r = 81 := by unfold apE; rw [if_neg hk4, if_neg (fun h => hk3 h.1)]
      have eT : apT keys T r = T := by unfold apT; rw [if_neg hk4, if_neg (fun h => hk3 h.1)]
      rw [eE, eT]
      obtain ⟨k, s, a, b, c⟩ := r
      simp only at hk3 hk4 e3 e4
      simp only [recV]
      clear eE eT hr hok hM hMn hD h h1
      go_enter Try.func21, Try.ntmps21
      go_wp2_with fail
      go_ret
      exact ⟨rfl, h'.out.keeps ((Keeps.refl Nil w).alloc _) (fun h => h), (Keeps.refl _ w).alloc _⟩
end Go.Proofs.Ytmdgbcbnciaikaa
