/- BufferNewer: plain laws -/
import Derived.Test.YtcejapdjkkmkaaaK
namespace Go.Proofs.Ytcejapdjkkmkaaa
open Go.RowKit

theorem gi_mem {xs : List Int} {q : Nat} (h : q < xs.length) : gi xs q ∈ xs := by rw [gi_eq h]; exact List.getElem_mem h
theorem iset_len (r : It) : ∀ l : List It, (iset r l).length ≤ l.length + 1
  | [] => by simp [iset]
  | x :: l => by
    have := iset_len r l
    unfold iset
    split <;> simp <;> omega
theorem iput_len {most : Int} {r : It} {l : List It} {n : Nat} (h : l.length + 1 ≤ n) : (iput most r l).length ≤ n := by
  have := iset_len r l
  unfold iput
  split <;> omega

theorem iget_put {r : It} {l : List It} (h : (l.length : Int) < 200) : iget r.key (iput 200 r l) = some r := by
  have e : ifull 200 r.key l = false := by simp [ifull]; intro _; omega
  unfold iput
  rw [e, if_neg (by decide), iget_set, if_pos rfl]
theorem ist_put {k : Int} {l : List It} (h : (l.length : Int) < 200) : ist k (iput 200 ⟨k, 2, []⟩ l) = 2 := by
  unfold ist
  rw [iget_put (r := ⟨k, 2, []⟩) h]; rfl
theorem idata_put {k : Int} {l : List It} (h : (l.length : Int) < 200) : idata k (iput 200 ⟨k, 2, []⟩ l) = [] := by
  unfold idata
  rw [iget_put (r := ⟨k, 2, []⟩) h]; rfl

theorem ihas_in {k : Int} {l : List It} (h : k ∈ ikeys l) : ihas k l = true := by
  unfold ihas
  cases hg : iget k l with
  | none => exact absurd h (iget_none.1 hg)
  | some x => rfl
theorem ikeys_del (k : Int) : ∀ l : List It, ikeys (idel k l) = (ikeys l).erase k
  | [] => rfl
  | x :: l => by
    by_cases h : k = x.key
    · simp [idel, ikeys, h]
    · have ih := ikeys_del k l
      simp only [ikeys] at ih
      have h' : (x.key == k) = false := by simp; exact fun e => h e.symm
      simp [idel, ikeys, h, ih, h']
theorem erase_at' : ∀ {K : List Int} {q : Nat} (hq : q < K.length), K.Nodup → K.erase K[q] = K.eraseIdx q
  | [], q, hq, _ => by simp at hq
  | x :: r, 0, _, _ => by simp
  | x :: r, q + 1, hq, hn => by
    have hq' : q < r.length := by simpa using hq
    have hn' := List.nodup_cons.1 hn
    have hne : (x == r[q]) = false := by
      simp
      intro e
      exact hn'.1 (e ▸ List.getElem_mem hq')
    simp [hne, erase_at' hq' hn'.2]
theorem erase_at {K : List Int} (hn : K.Nodup) {q : Nat} (hq : q < K.length) {k : Int} (hk : gi K q = k) : K.erase k = K.eraseIdx q := by
  rw [gi_eq hq] at hk
  subst hk
  exact erase_at' hq hn
theorem idel_len (k : Int) : ∀ l : List It, (idel k l).length ≤ l.length
  | [] => by simp [idel]
  | x :: l => by
    have := idel_len k l
    unfold idel
    split <;> simp <;> omega
theorem skip_same {K : List Int} {q : Nat} (hq : q < K.length) : (K.take (q + 1)).eraseIdx q = (K.take q).eraseIdx q := by
  rw [List.take_succ_eq_append_getElem hq, List.eraseIdx_append_of_length_le (by simp; omega)]
  have h1 : (K.take q).length = q := by simp; omega
  have h2 : (K.take q).eraseIdx q = K.take q := List.eraseIdx_of_length_le (by omega)
  rw [h1, h2, Nat.sub_self]
  simp
theorem skip_more {K : List Int} {p q : Nat} (hp : p < K.length) (hne : p ≠ q) : (K.take (p + 1)).eraseIdx q = (K.take p).eraseIdx q ++ [gi K p] := by
  rw [List.take_succ_eq_append_getElem hp, ← gi_eq hp]
  have h1 : (K.take p).length = p := by simp; omega
  rcases Nat.lt_or_ge q p with h | h
  · rw [List.eraseIdx_append_of_lt_length (by omega)]
  · rw [List.eraseIdx_of_length_le (by simp; omega), List.eraseIdx_of_length_le (by omega)]

theorem idel_keys {l : List It} (hn : (ikeys l).Nodup) {q : Nat} (hq : q < (ikeys l).length) {k : Int} (hk : gi (ikeys l) q = k) : ikeys (iput 200 ⟨k, 2, []⟩ (idel k l)) = if l.length ≤ 200 then (ikeys l).eraseIdx q ++ [k] else ikeys (iput 200 ⟨k, 2, []⟩ (idel k l)) := by
  split
  · have hd := ikeys_del k l
    have hlen : (idel k l).length + 1 = l.length := by
      rw [← ikeys_len, hd, erase_at hn hq hk, List.length_eraseIdx, if_pos hq, ikeys_len]
      rw [ikeys_len] at hq; omega
    have hout : k ∉ ikeys (idel k l) := by
      rw [hd]
      intro hm
      exact (List.Nodup.mem_erase_iff hn).1 hm |>.1 rfl
    have := (iput_new (most := 200) (r := ⟨k, 2, []⟩) (l := idel k l) hout (by omega)).2
    rw [this, hd, erase_at hn hq hk]
  · rfl

end Go.Proofs.Ytcejapdjkkmkaaa
