/- ArbiterFair: the plain law: how many others come ahead of a queue that stays ready -/
import Derived.Test.YtikofabijdkbjaaH
namespace Go.Proofs.Ytikofabijdkbjaa
open Go.RowKit

/-- the sum of m numbers, from p on, round and round -/
def csum (f : Nat → Int) (n p : Nat) : Nat → Int
  | 0 => 0
  | m + 1 => csum f n p m + f ((p + m) % n)
theorem csum_head (f : Nat → Int) (n p : Nat) : ∀ m, csum f n p (m + 1) = f (p % n) + csum f n (p + 1) m
  | 0 => by simp [csum]
  | m + 1 => by
    have ih := csum_head f n p m
    rw [csum, ih, csum, show p + (m + 1) = p + 1 + m by omega]
    omega
theorem csum_turn (f : Nat → Int) (n p : Nat) : csum f n (p + 1) n = csum f n p n := by
  have h := csum_head f n p n
  rw [csum, Nat.add_mod_right] at h
  omega
theorem csum_all (f : Nat → Int) (n : Nat) : ∀ p, csum f n p n = csum f n 0 n
  | 0 => rfl
  | p + 1 => (csum_turn f n p).trans (csum_all f n p)
theorem csum_mod (f : Nat → Int) (n p : Nat) : ∀ m, csum f n (p % n + 1) m = csum f n (p + 1) m
  | 0 => rfl
  | m + 1 => by
    rw [csum, csum, csum_mod f n p m]
    congr 2
    rw [Nat.add_assoc, Nat.mod_add_mod, Nat.add_assoc]
theorem csum_split (f : Nat → Int) (n p i : Nat) : ∀ m, csum f n p (i + m) = csum f n p i + csum f n (p + i) m
  | 0 => by simp [csum]
  | m + 1 => by rw [← Nat.add_assoc, csum, csum_split f n p i m, csum, show p + (i + m) = p + i + m by omega]; omega
theorem csum_nn (f : Nat → Int) (n p : Nat) (hn : 0 < n) (h : ∀ j, j < n → 0 ≤ f j) : ∀ m, 0 ≤ csum f n p m
  | 0 => by simp [csum]
  | m + 1 => by have := csum_nn f n p hn h m; have := h ((p + m) % n) (Nat.mod_lt _ hn); rw [csum]; omega

def Arb.base (s : Arb) : Nat := if s.fresh then 0 else s.pos + 1
theorem q_base {s : Arb} {k : Nat} (hk : k < s.bursts.length) : s.q k = (s.base + k) % s.bursts.length := by
  unfold Arb.q Arb.base
  cases s.fresh
  · rfl
  · simp [Nat.mod_eq_of_lt hk]

def Arb.extra (s : Arb) (q : Nat) : Int := if 0 < s.used ∧ s.pos ≠ q then gi s.bursts s.pos - s.used else 0

/-- So many others came; what may still come ahead of q fits. -/
structure Bound (s : Arb) (q : Nat) (o : Int) : Prop where
  ok : s.Ok
  lim : s.used ≤ gi s.bursts s.pos
  nn : 0 ≤ o
  bd : ∃ k0, k0 < s.bursts.length ∧ (s.base + k0) % s.bursts.length = q ∧ o + s.extra q + csum (gi s.bursts) s.bursts.length s.base k0 ≤ csum (gi s.bursts) s.bursts.length 0 s.bursts.length - gi s.bursts q

theorem extra_nn {s : Arb} {q : Nat} (h : s.used ≤ gi s.bursts s.pos) : 0 ≤ s.extra q := by
  unfold Arb.extra; split <;> omega
theorem Bound.le {s : Arb} {q : Nat} {o : Int} (h : Bound s q o) : o ≤ csum (gi s.bursts) s.bursts.length 0 s.bursts.length - gi s.bursts q := by
  obtain ⟨k0, h1, h2, h3⟩ := h.bd
  have := extra_nn (q := q) h.lim
  have := csum_nn (gi s.bursts) s.bursts.length s.base h.ok.len0 (fun j hj => by have := h.ok.rng j hj; omega) k0
  omega

theorem csum_but {s : Arb} (hs : s.Ok) {q : Nat} (hq : q < s.bursts.length) : csum (gi s.bursts) s.bursts.length (q + 1) (s.bursts.length - 1) = csum (gi s.bursts) s.bursts.length 0 s.bursts.length - gi s.bursts q := by
  obtain ⟨m, hm⟩ : ∃ m, s.bursts.length = m + 1 := ⟨s.bursts.length - 1, by have := hs.len0; omega⟩
  have h := csum_all (gi s.bursts) s.bursts.length (q + 1)
  rw [hm] at h hq ⊢
  rw [csum, show q + 1 + m = q + (m + 1) by omega, Nat.add_mod_right, Nat.mod_eq_of_lt hq] at h
  rw [show m + 1 - 1 = m by omega]
  omega

theorem Bound.step {s : Arb} {q : Nat} {o : Int} (h : Bound s q o) (hq : q < s.bursts.length) {bs : List Bool} (hr : gb bs q = true) :
    Bound (s.next bs).2 q (if (s.next bs).1 = (q : Int) then 0 else o + 1) := by
  have hok := Arb.next_ok h.ok bs
  obtain ⟨k0, h1, h2, h3⟩ := h.bd
  have hex := extra_nn (q := q) h.lim
  have hnn := h.nn
  have hf : ∀ j, j < s.bursts.length → 0 ≤ gi s.bursts j := fun j hj => by have := h.ok.rng j hj; omega
  have hlen := h.ok.len0
  by_cases ht : s.takes bs
  · rw [next_of_takes ht] at hok ⊢
    dsimp only at hok ⊢
    obtain ⟨t1, t2, t3⟩ := ht
    by_cases hp : s.pos = q
    · rw [if_pos (show (s.pos : Int) = (q : Int) by omega)]
      refine ⟨hok, by show s.used + 1 ≤ gi s.bursts s.pos; omega, Int.le_refl _, k0, h1, h2, ?_⟩
      have e : Arb.extra { s with used := s.used + 1 } q = 0 := by unfold Arb.extra; rw [if_neg (fun hh => hh.2 hp)]
      rw [e]
      show 0 + 0 + csum (gi s.bursts) s.bursts.length s.base k0 ≤ csum (gi s.bursts) s.bursts.length 0 s.bursts.length - gi s.bursts q
      omega
    · rw [if_neg (show ¬ (s.pos : Int) = (q : Int) by omega)]
      refine ⟨hok, by show s.used + 1 ≤ gi s.bursts s.pos; omega, by omega, k0, h1, h2, ?_⟩
      have e : Arb.extra { s with used := s.used + 1 } q = gi s.bursts s.pos - (s.used + 1) := by
        unfold Arb.extra; rw [if_pos ⟨by show 0 < s.used + 1; omega, hp⟩]
      have e2 : s.extra q = gi s.bursts s.pos - s.used := by unfold Arb.extra; rw [if_pos ⟨t1, hp⟩]
      rw [e]
      show o + 1 + (gi s.bursts s.pos - (s.used + 1)) + csum (gi s.bursts) s.bursts.length s.base k0 ≤ csum (gi s.bursts) s.bursts.length 0 s.bursts.length - gi s.bursts q
      omega
  · obtain ⟨i, hi, hik⟩ := seek_some (s := s) (bs := bs) (f := s.bursts.length) (Nat.zero_le k0) (by omega) (by rw [q_base h1, h2]; exact hr)
    rw [next_of_some ht hi] at hok ⊢
    dsimp only at hok ⊢
    have hil : i < s.bursts.length := by omega
    have hqi : s.q i = (s.base + i) % s.bursts.length := q_base hil
    have hqil : s.q i < s.bursts.length := Arb.q_lt h.ok hil
    have hr1 := h.ok.rng _ hqil
    by_cases hp : s.q i = q
    · rw [if_pos (show (s.q i : Int) = (q : Int) by omega)]
      refine ⟨hok, by show (1 : Int) ≤ gi s.bursts (s.q i); omega, Int.le_refl _, s.bursts.length - 1, by show s.bursts.length - 1 < s.bursts.length; omega, ?_, ?_⟩
      · show (s.q i + 1 + (s.bursts.length - 1)) % s.bursts.length = q
        rw [hp, show q + 1 + (s.bursts.length - 1) = q + s.bursts.length by omega, Nat.add_mod_right, Nat.mod_eq_of_lt hq]
      · have e : Arb.extra { s with pos := s.q i, used := 1, fresh := false } q = 0 := by unfold Arb.extra; rw [if_neg (fun hh => hh.2 hp)]
        rw [e]
        show 0 + 0 + csum (gi s.bursts) s.bursts.length (s.q i + 1) (s.bursts.length - 1) ≤ _
        rw [hp, csum_but h.ok hq]
        show 0 + 0 + (csum (gi s.bursts) s.bursts.length 0 s.bursts.length - gi s.bursts q) ≤ csum (gi s.bursts) s.bursts.length 0 s.bursts.length - gi s.bursts q
        omega
    · rw [if_neg (show ¬ (s.q i : Int) = (q : Int) by omega)]
      have hne : i ≠ k0 := fun e => hp (by rw [hqi, e, h2])
      refine ⟨hok, by show (1 : Int) ≤ gi s.bursts (s.q i); omega, by omega, k0 - i - 1, by show k0 - i - 1 < s.bursts.length; omega, ?_, ?_⟩
      · show (s.q i + 1 + (k0 - i - 1)) % s.bursts.length = q
        rw [hqi, Nat.add_assoc, Nat.mod_add_mod, show s.base + i + (1 + (k0 - i - 1)) = s.base + k0 by omega, h2]
      · have e : Arb.extra { s with pos := s.q i, used := 1, fresh := false } q = gi s.bursts (s.q i) - 1 := by unfold Arb.extra; rw [if_pos ⟨by show (0 : Int) < 1; omega, hp⟩]
        rw [e]
        show o + 1 + (gi s.bursts (s.q i) - 1) + csum (gi s.bursts) s.bursts.length (s.q i + 1) (k0 - i - 1) ≤ csum (gi s.bursts) s.bursts.length 0 s.bursts.length - gi s.bursts q
        have c1 := csum_split (gi s.bursts) s.bursts.length s.base i (k0 - i - 1 + 1)
        rw [show i + (k0 - i - 1 + 1) = k0 by omega, csum_head, ← hqi] at c1
        have c2 := csum_mod (gi s.bursts) s.bursts.length (s.base + i) (k0 - i - 1)
        rw [← hqi] at c2
        have c3 := csum_nn (gi s.bursts) s.bursts.length s.base hlen hf i
        omega

theorem csum_cut (f : Nat → Int) (n q : Nat) (hq : q < n) (h : ∀ j, j < n → 0 ≤ f j) : csum f n 0 q ≤ csum f n 0 n - f q := by
  have c1 := csum_split f n 0 q (n - q - 1 + 1)
  rw [show q + (n - q - 1 + 1) = n by omega, csum_head, Nat.zero_add, Nat.mod_eq_of_lt hq] at c1
  have c2 := csum_nn f n (q + 1) (by omega) h (n - q - 1)
  omega
theorem Bound.start {xs : List Int} (h : NewOk xs) {q : Nat} (hq : q < xs.length) : Bound (Arb.start xs) q 0 := by
  have hok := Arb.start_ok h
  have hr := h.2.2 0 h.1
  refine ⟨hok, by show (0 : Int) ≤ gi xs 0; omega, Int.le_refl _, q, hq, by show (0 + q) % xs.length = q; rw [Nat.zero_add, Nat.mod_eq_of_lt hq], ?_⟩
  have := csum_cut (gi xs) xs.length q hq (fun j hj => by have := h.2.2 j hj; omega)
  show 0 + 0 + csum (gi xs) xs.length 0 q ≤ csum (gi xs) xs.length 0 xs.length - gi xs q
  omega
/-- the sum as the law makes it -/
def rsum (m : Int) (raw : List Int) : Nat → Int
  | 0 => 0
  | k + 1 => rsum m raw k + (1 + absZ (gi raw k) % m)
theorem gi_mkB {m : Int} {raw : List Int} {k j : Nat} (h1 : j < k) (h2 : k ≤ raw.length) : gi (mkB m raw k) j = 1 + absZ (gi raw j) % m := by
  rw [gi_eq (by rw [mkB_len h2]; exact h1)]
  simp only [mkB, List.getElem_map, List.getElem_take]
  rw [gi_eq (by omega)]
theorem rsum_eq {m : Int} {raw : List Int} {k : Nat} (h : k ≤ raw.length) : ∀ j, j ≤ k → csum (gi (mkB m raw k)) k 0 j = rsum m raw j
  | 0, _ => rfl
  | j + 1, hj => by rw [csum, rsum, rsum_eq h j (by omega), Nat.zero_add, Nat.mod_eq_of_lt (by omega), gi_mkB (by omega) h]
theorem rsum_rng {m : Int} (hm : 1 ≤ m) {raw : List Int} : ∀ k : Nat, (0 : Int) ≤ rsum m raw k ∧ rsum m raw k ≤ k * m
  | 0 => by simp [rsum]
  | k + 1 => by
    have ih := rsum_rng hm (raw := raw) k
    have h1 := Int.emod_nonneg (absZ (gi raw k)) (show m ≠ 0 by omega)
    have h2 := Int.emod_lt_of_pos (absZ (gi raw k)) (show 0 < m by omega)
    rw [rsum]
    constructor
    · omega
    · have e : ((k + 1 : Nat) : Int) * m = k * m + m := by rw [Int.natCast_add, Int.add_mul]; simp
      rw [e]; omega
end Go.Proofs.Ytikofabijdkbjaa
