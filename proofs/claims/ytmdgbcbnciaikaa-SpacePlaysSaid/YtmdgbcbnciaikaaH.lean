/- Create -/
import Derived.Test.YtmdgbcbnciaikaaG
namespace Go.Proofs.Ytmdgbcbnciaikaa
open Go.RowKit

attribute [local go_sem ↓] Go.wp_at_zero Go.wp_at_succ

/-- may one be made? -/
def crIf (keys : Int) (T : List Spc) (size : Int) : Bool := decide (1 ≤ size ∧ 0 ≤ idx0 T 0 ∧ 0 ≤ lowAt keys T size)
def crS (keys : Int) (T : List Spc) (size : Int) : Spc := if crIf keys T size then ⟨idx0 T 0 + 1, lowAt keys T size, size⟩ else sp0
def crT (keys : Int) (T : List Spc) (size : Int) : List Spc := if crIf keys T size then T.set (idx0 T 0).toNat ⟨idx0 T 0 + 1, lowAt keys T size, size⟩ else T
def crE (keys : Int) (T : List Spc) (size : Int) : Int := if size < 1 then 1 else if crIf keys T size then 0 else 90
theorem crT_ok {keys size : Int} {T : List Spc} (h : TabOk keys T) : TabOk keys (crT keys T size) := by
  unfold crT
  split
  · rename_i hc
    unfold crIf at hc
    obtain ⟨h1, h2, h3⟩ := of_decide_eq_true hc
    rcases idx0_spec T 0 with hi | ⟨j, hi, hj⟩
    · omega
    · rw [Nat.zero_add] at hi
      rw [hi]
      exact create_ok h (spSort_perm T) (spSort_sorted h) h1 hj h3
  · exact h

set_option maxHeartbeats 4000000 in
theorem create_low {w : World} {tb : Nat} {size : Int} (h1 : size < 1) : Calls Try.prog 10 #[.pointer (some ⟨tb, 0, none⟩), .int .i64 size] w fun e w' => e = .returned (.tuple #[spV sp0, .int .i64 1]) ∧ Keeps Nil w w' := by
  go_enter Try.func10, Try.ntmps10
  go_wp2_with fail
  exact bodyPost_ret (v := .tuple #[spV sp0, .int .i64 1]) (by simp [results, Try.results10, go_sem, spV, sp0]) rfl ⟨rfl, (Keeps.refl Nil w).alloc _⟩
set_option maxHeartbeats 4000000 in
theorem create_full {w : World} {tb : Nat} {E : TypeId} {keys : Int} {T : List Spc} (h : TabAt w tb E keys T) (hok : TabOk keys T) (hk0 : 1 ≤ keys) (hkm : keys ≤ 4096) {size : Int} (hs0 : 1 ≤ size) (hs1 : size < 9223372036854775808)
    (hn : idx0 T 0 < 0 ∨ lowAt keys T size < 0) :
    Calls Try.prog 10 #[.pointer (some ⟨tb, 0, none⟩), .int .i64 size] w fun e w' => e = .returned (.tuple #[spV sp0, .int .i64 90]) ∧ Keeps Nil w w' := by
  have h0 := h.keeps ((Keeps.refl Nil w).alloc zblk) (fun h => h)
  have hI := Lib.hid (index27 h0 hok.len)
  have hB := Lib.hid (show ∀ w1, Keeps Nil (w.alloc zblk) w1 → _ from fun w1 hk => base_any (h0.keeps hk (fun h => h)) hok hk0 hkm hs0 hs1)
  obtain ⟨i, hi⟩ : ∃ i, idx0 T 0 = i := ⟨_, rfl⟩
  obtain ⟨at', hat⟩ : ∃ at', lowAt keys T size = at' := ⟨_, rfl⟩
  rw [hi, hat] at hn
  rw [hi] at hI
  rw [hat] at hB
  simp only [zblk] at hI hB
  have g0 : ¬ size < 1 := by omega
  clear h h0 hi hat hok hk0 hkm
  go_enter Try.func10, Try.ntmps10
  go_wp2_with fail
  refine (hI.out).mono ?_
  rintro e w1 ⟨rfl, hk⟩
  have hk' := Lib.hid hk
  have hB2 := Lib.hid (hB.out w1 hk)
  clear hk hI hB
  go_wp2_with fail
  refine (hB2.out).mono ?_
  rintro e w2 ⟨rfl, hk⟩
  have hk2 := Lib.hid (hk'.out.trans hk)
  have f := fresh3 (w := w) hk2.out
  obtain ⟨c0, c1, c2, f0, f1, f2⟩ := f
  have y := cells3 w2 w.heap.size (v0 := .int .i64 0) (v1 := .int .i64 0) (v2 := .int .i64 0) c0 c1 c2
  have y' := Lib.hid y
  clear hk hB2 y
  by_cases g1 : i < 0
  · clear hn
    go_wp2_with fail
    obtain ⟨y0, y1, y2⟩ := y'.out
    exact bodyPost_ret (v := .tuple #[spV sp0, .int .i64 90]) (by simp [results, Try.results10, go_sem, spV, sp0, y0, y1, y2]) rfl ⟨rfl, (((Keeps.refl Nil w).alloc _).trans hk2.out).set3 (.inr (Nat.le_refl _)) _ _ _ _ _ _⟩
  · have g2 : at' < 0 := by omega
    clear hn
    go_wp2_with fail
    obtain ⟨y0, y1, y2⟩ := y'.out
    exact bodyPost_ret (v := .tuple #[spV sp0, .int .i64 90]) (by simp [results, Try.results10, go_sem, spV, sp0, y0, y1, y2]) rfl ⟨rfl, (((Keeps.refl Nil w).alloc _).trans hk2.out).set3 (.inr (Nat.le_refl _)) _ _ _ _ _ _⟩
set_option maxHeartbeats 4000000 in
theorem create_in {w : World} {tb i : Nat} {E : TypeId} {keys b : Int} {T : List Spc} (h : TabAt w tb E keys T) (hok : TabOk keys T) (hk0 : 1 ≤ keys) (hkm : keys ≤ 4096) {size : Int} (hs0 : 1 ≤ size) (hs1 : size < 9223372036854775808)
    (hi : idx0 T 0 = (i : Int)) (hil : i < 16) (hat : lowAt keys T size = b) (hb : 0 ≤ b) :
    Calls Try.prog 10 #[.pointer (some ⟨tb, 0, none⟩), .int .i64 size] w fun e w' => e = .returned (.tuple #[spV ⟨(i : Int) + 1, b, size⟩, .int .i64 0]) ∧ TabAt w' tb E keys (T.set i ⟨(i : Int) + 1, b, size⟩) ∧ Keeps (· = tb) w w' := by
  have hlt := lt_of_heap h
  have h0 := h.keeps ((Keeps.refl Nil w).alloc zblk) (fun h => h)
  have hI := Lib.hid (index27 h0 hok.len)
  have hB := Lib.hid (show ∀ w1, Keeps Nil (w.alloc zblk) w1 → _ from fun w1 hk => base_any (h0.keeps hk (fun h => h)) hok hk0 hkm hs0 hs1)
  obtain ⟨s, hs⟩ : ∃ s, T[i]? = some s := ⟨_, List.getElem?_eq_getElem (by rw [hok.len]; exact hil)⟩
  have hs' := Lib.hid hs
  have h' := Lib.hid h0
  rw [hi] at hI
  rw [hat] at hB
  simp only [zblk] at hI hB
  have g0 : ¬ size < 1 := by omega
  have g1 : ¬ (i : Int) < 0 := by omega
  have g2 : ¬ b < 0 := by omega
  have g3 : (0 : Int) ≤ (i : Int) := by omega
  have g4 : (i : Int) < 16 := by omega
  have n0 : ¬ w.heap.size = tb := by omega
  have n3 : ¬ tb = w.heap.size := by omega
  clear h h0 hi hat hok hk0 hkm hs
  go_enter Try.func10, Try.ntmps10
  go_wp2_with fail
  refine (hI.out).mono ?_
  rintro e w1 ⟨rfl, hk⟩
  have hk' := Lib.hid hk
  have hB2 := Lib.hid (hB.out w1 hk)
  clear hk hI hB
  go_wp2_with fail
  refine (hB2.out).mono ?_
  rintro e w2 ⟨rfl, hk⟩
  have hk2 := Lib.hid (hk'.out.trans hk)
  have f := fresh3 (w := w) hk2.out
  have f' := Lib.hid f
  obtain ⟨c0, c1, c2, f0, f1, f2⟩ := f
  have hT := h'.out.keeps hk2.out (fun h => h)
  have hT' := Lib.hid hT
  obtain ⟨t0, t1, t2⟩ := hT.cells hs'.out
  have u0 := hT.frozen (1 + i * 3)
  have u1 := hT.frozen (1 + i * 3 + 1)
  have u2 := hT.frozen (1 + i * 3 + 2)
  clear hk hB2 hT hb hlt
  go_wp2_with fail
  have hK3 : Keeps (· = tb) w2 (sp3 w2 tb (1 + i * 3) ((i : Int) + 1) b size) := by unfold sp3; exact (Keeps.refl (· = tb) _).set3 (.inl rfl) _ _ _ _ _ _
  obtain ⟨b0, b1, b2, _⟩ := f'.out
  obtain ⟨y0, y1, y2⟩ := cells3 _ _ (v0 := .int .i64 ((i : Int) + 1)) (v1 := .int .i64 b) (v2 := .int .i64 size) (hK3.cell b0 (fun e => n0 e)) (hK3.cell b1 (fun e => n0 e)) (hK3.cell b2 (fun e => n0 e))
  have hS := hT'.out.set hs'.out ⟨(i : Int) + 1, b, size⟩
  simp only [sp3] at y0 y1 y2 hK3
  refine bodyPost_ret (v := .tuple #[spV ⟨(i : Int) + 1, b, size⟩, .int .i64 0]) (by simp [results, Try.results10, go_sem, spV, y0, y1, y2]) rfl ⟨rfl, ?_, ?_⟩
  · exact TabAt.keeps hS ((Keeps.refl (· = w.heap.size) _).set3 (.inl rfl) _ _ _ _ _ _) (fun e => n3 e)
  · exact (((((Keeps.refl Nil w).alloc zblk).trans hk2.out).mono (fun _ h => h.elim)).trans hK3).set3 (.inr (Nat.le_refl _)) _ _ _ _ _ _

theorem create_any {w : World} {tb : Nat} {E : TypeId} {keys : Int} {T : List Spc} (h : TabAt w tb E keys T) (hok : TabOk keys T) (hk0 : 1 ≤ keys) (hkm : keys ≤ 4096) {size : Int} (hs1 : size < 9223372036854775808) :
    Calls Try.prog 10 #[.pointer (some ⟨tb, 0, none⟩), .int .i64 size] w fun e w' => e = .returned (.tuple #[spV (crS keys T size), .int .i64 (crE keys T size)]) ∧ TabAt w' tb E keys (crT keys T size) ∧ Keeps (· = tb) w w' := by
  by_cases hs0 : size < 1
  · have hf : crIf keys T size = false := by unfold crIf; exact decide_eq_false (by omega)
    unfold crS crT crE
    rw [hf, if_pos hs0]
    refine (create_low hs0).mono ?_
    rintro e w' ⟨rfl, hk⟩
    exact ⟨rfl, h.keeps hk (fun h => h), hk.mono (fun _ h => h.elim)⟩
  · by_cases hn : idx0 T 0 < 0 ∨ lowAt keys T size < 0
    · have hf : crIf keys T size = false := by unfold crIf; exact decide_eq_false (by omega)
      unfold crS crT crE
      rw [hf, if_neg hs0]
      refine (create_full h hok hk0 hkm (by omega) hs1 hn).mono ?_
      rintro e w' ⟨rfl, hk⟩
      exact ⟨rfl, h.keeps hk (fun h => h), hk.mono (fun _ h => h.elim)⟩
    · have hf : crIf keys T size = true := by unfold crIf; exact decide_eq_true (by omega)
      unfold crS crT crE
      rw [hf, if_neg hs0]
      rcases idx0_spec T 0 with hi | ⟨j, hi, hj⟩
      · omega
      · rw [Nat.zero_add] at hi
        have hjl := (List.getElem?_eq_some_iff.1 hj).1
        rw [hok.len] at hjl
        rw [hi, if_pos rfl, if_pos rfl, if_pos rfl]
        exact create_in h hok hk0 hkm (by omega) hs1 hi hjl rfl (by omega)
end Go.Proofs.Ytmdgbcbnciaikaa
