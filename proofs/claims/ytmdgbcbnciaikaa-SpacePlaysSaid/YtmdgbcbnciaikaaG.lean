/- base: the lowest place with room; Create -/
import Derived.Test.YtmdgbcbnciaikaaSort
namespace Go.Proofs.Ytmdgbcbnciaikaa
open Go.RowKit

attribute [local go_sem ↓] Go.wp_at_zero Go.wp_at_succ

/-- the spaces by rising bases -/
def spSort (T : List Spc) : List Spc := (spAll T).mergeSort (fun a b => decide (a.base ≤ b.base))
theorem spSort_perm (T : List Spc) : (spSort T).Perm (spAll T) := List.mergeSort_perm _ _
theorem spSort_sorted {keys : Int} {T : List Spc} (h : TabOk keys T) : SortedB (spSort T) := by
  have h1 : (spSort T).Pairwise (fun a b => (decide (a.base ≤ b.base)) = true) := List.pairwise_mergeSort (fun a b c => by simp; omega) (fun a b => by simp; omega) _
  have h2 : ((spSort T).map (·.base)).Nodup := ((spSort_perm T).map _).nodup_iff.2 (bases_nodup h)
  unfold List.Nodup at h2
  rw [List.pairwise_map] at h2
  unfold SortedB
  refine (h1.and h2).imp (fun {a b} h => ?_)
  have := of_decide_eq_true h.1
  have := h.2
  omega
theorem spSort_one {keys : Int} {T S : List Spc} (h : TabOk keys T) (hp : S.Perm (spAll T)) (hs : SortedB S) : S = spSort T := sorted_one (hp.trans (spSort_perm T).symm) hs (spSort_sorted h)
/-- the lowest place with room for so many; below 0: there is none -/
def lowAt (keys : Int) (T : List Spc) (size : Int) : Int := scan size keys (spSort T) 0
theorem scan_drop {size keys : Int} {S : List Spc} {q : Nat} {s : Spc} (h : S[q]? = some s) (pl : Int) : scan size keys (S.drop q) pl = if size ≤ s.base - pl then pl else scan size keys (S.drop (q + 1)) (s.base + s.size) := by
  obtain ⟨hq, e⟩ := List.getElem?_eq_some_iff.1 h
  rw [List.drop_eq_getElem_cons hq, e, scan]

set_option maxHeartbeats 8000000 in
theorem base_any {w : World} {tb : Nat} {E : TypeId} {keys : Int} {T : List Spc} (h : TabAt w tb E keys T) (hok : TabOk keys T) (hk0 : 1 ≤ keys) (hkm : keys ≤ 4096) {size : Int} (hs0 : 1 ≤ size) (hs1 : size < 9223372036854775808) :
    Calls Try.prog 28 #[.pointer (some ⟨tb, 0, none⟩), .int .i64 size] w fun e w' => e = .returned (.int .i64 (lowAt keys T size)) ∧ Keeps Nil w w' := by
  have hC := Lib.hid (all_any h hok.len)
  have hS := Lib.hid (show ∀ S, S.Perm (spAll T) → SortedB S → S = spSort T from fun S a b => spSort_one hok a b)
  have hN := Lib.hid (bases_nodup hok)
  have hB := Lib.hid (show ∀ s ∈ spSort T, SpOk keys s from fun s hs => hok.all ((spSort_perm T).mem_iff.1 hs))
  have hL := Lib.hid (show (spAll T).length ≤ 16 by have := spAll_len T; have := hok.len; omega)
  have hp := Lib.hid (spSort_perm T)
  have h' := Lib.hid h
  obtain ⟨z, hz⟩ : ∃ z, lowAt keys T size = z := ⟨_, rfl⟩
  have hz' : Hid (scan size keys (spSort T) 0 = z) := Lib.hid hz
  rw [hz]
  obtain ⟨A, hA⟩ : ∃ A, spAll T = A := ⟨_, rfl⟩
  obtain ⟨S, hSS⟩ : ∃ S, spSort T = S := ⟨_, rfl⟩
  rw [hA] at hC hS hN hL hp
  rw [hSS] at hS hB hz' hp
  clear h hok hz hA hSS
  go_enter Try.func28, Try.ntmps28
  go_wp2_with fail
  refine (hC.out).mono ?_
  rintro e w1 ⟨g, cap, rfl, hr, hk, hg⟩
  have hD := Lib.hid (sort_any hr (by have := hL.out; omega) hN.out)
  have hk' := Lib.hid hk
  have hg' := Lib.hid hg
  clear hr hk hC hg
  go_wp2_with fail
  refine (hD.out).mono ?_
  rintro e w2 ⟨rfl, M, hMp, hMs, hr, hk⟩
  obtain rfl : M = S := hS.out M hMp hMs
  have hK2 := Lib.hid (hk'.out.trans' hk (fun j hj => .inr (by rw [hj]; exact hg'.out)))
  rw [← hMp.length_eq] at hL ⊢
  have hr' := Lib.hid hr
  have hT' := Lib.hid (h'.out.keeps hK2.out (fun h => h))
  obtain ⟨n, hn⟩ : ∃ n, M.length = n := ⟨_, rfl⟩
  have hn' := Lib.hid hn
  rw [hn] at hL ⊢
  have hl16 := hL.out
  clear hMp hMs hk hr hD hN hn hS
  go_wp2_with fail
  go_loopw [6, 8, 15] (fun cp _ c wx => ∃ (q : Nat) (pl : Int), q ≤ n ∧ c = .int .i64 q ∧ cp = .int .i64 pl ∧ 0 ≤ pl ∧ pl ≤ 4096 ∧ Hid (scan size keys (M.drop q) pl = z) ∧ Keeps Nil w2 wx) (fun _ _ c _ => n - (intOf c).toNat)
  case atStart => exact ⟨0, 0, by omega, rfl, rfl, by omega, by omega, Lib.hid (by simpa using hz'.out), Keeps.refl _ _⟩
  case round =>
    obtain ⟨q, pl, hq, rfl, rfl, hp0, hp1, hI, hK⟩ := hrel
    have hK' := Lib.hid hK
    by_cases hlt : q < n
    · obtain ⟨s, hs⟩ : ∃ s, M[q]? = some s := ⟨_, List.getElem?_eq_getElem (by rw [hn'.out]; exact hlt)⟩
      obtain ⟨c0, c1, c2⟩ := SpRow.cells (RecRow.keeps hr'.out hK (fun _ _ h => h)) hs
      have hi := scan_drop (size := size) (keys := keys) hs pl
      rw [hI.out] at hi
      obtain ⟨b1, b2, b3⟩ := hB.out s (List.mem_of_getElem? hs)
      obtain ⟨a, b, c⟩ := s
      simp only at b1 b2 b3 c0 c1 c2 hi
      have g1 : (0 : Int) ≤ (q : Int) := by omega
      have g2 : (q : Int) < (n : Int) := by omega
      have x1 : wrap64 (b - pl) = b - pl := by unfold wrap64; omega
      by_cases hf : size ≤ b - pl
      · rw [if_pos hf] at hi
        have hi' := Lib.hid hi
        clear hi hK hs hI b1 b2 b3
        go_wp2_with fail
        go_ret
        exact ⟨ret_int hi'.out.symm, (hK2.out.trans hK'.out).alloc _⟩
      · rw [if_neg hf] at hi
        have hi' := Lib.hid hi
        have x2 : wrap64 (b + c) = b + c := by unfold wrap64; omega
        have g5 : 0 ≤ b + c := by omega
        have g6 : b + c ≤ 4096 := by omega
        clear hi hK hs hI b1 b2 b3
        go_wp2_with fail
        go_roundw
        case rel => exact ⟨q + 1, b + c, by omega, by go_num, rfl, g5, g6, Lib.hid hi'.out.symm, hK'.out.alloc _⟩
        case measure => simp [intOf]; omega
    · have hqn : q = n := by omega
      have ck := (hT'.out.keeps hK (fun h => h)).key
      have hi := hI.out
      rw [hqn, ← hn'.out, List.drop_length] at hi
      unfold scan at hi
      have x1 : wrap64 (keys - pl) = keys - pl := by unfold wrap64; omega
      by_cases hf : size ≤ keys - pl
      · rw [if_pos hf] at hi
        have hi' := Lib.hid hi
        clear hi hK hI
        go_wp2_with fail
        go_ret
        exact ⟨ret_int hi'.out, hK2.out.trans hK'.out⟩
      · rw [if_neg hf] at hi
        have hi' := Lib.hid hi
        clear hi hK hI
        go_wp2_with fail
        go_ret
        exact ⟨ret_int hi'.out, hK2.out.trans hK'.out⟩
end Go.Proofs.Ytmdgbcbnciaikaa
