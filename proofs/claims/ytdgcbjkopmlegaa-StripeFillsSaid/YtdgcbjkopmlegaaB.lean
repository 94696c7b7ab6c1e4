/- stripe: leaves in memory; may a leaf be? (the program's) -/
import Derived.Test.YtdgcbjkopmlegaaA
namespace Go.Proofs.Ytdgcbjkopmlegaa
open Go.RowKit

attribute [local go_sem ↓] Go.wp_at_zero Go.wp_at_succ

structure Sl where
  key : Int
  st : Int
  seq : Int
deriving DecidableEq
structure Lf where
  sl : List Sl
  se : List (List Int)
deriving DecidableEq
def slC (s : Sl) : List Value := [.int .u32 s.key, .int .i64 s.st, .int .u64 s.seq]
theorem slC_len (s : Sl) : (slC s).length = 3 := rfl
/-- The slice at a reads as the slots L. -/
def SlotsAt (w : World) (a : Option Addr) (L : List Sl) : Prop :=
  ∀ i (_ : i < L.length), ∃ b off, a = some ⟨b, off, none⟩ ∧ w.cell? ⟨b, off + i * 3, none⟩ = some (.int .u32 L[i].key) ∧ w.cell? ⟨b, off + i * 3 + 1, none⟩ = some (.int .i64 L[i].st) ∧ w.cell? ⟨b, off + i * 3 + 2, none⟩ = some (.int .u64 L[i].seq)
theorem SlotsAt.nil {w w' : World} {a : Option Addr} {L : List Sl} (h : SlotsAt w a L) (hk : Keeps Nil w w') : SlotsAt w' a L := fun i hi =>
  let ⟨b, off, e, h1, h2, h3⟩ := h i hi; ⟨b, off, e, hk.cell h1 (fun h => h), hk.cell h2 (fun h => h), hk.cell h3 (fun h => h)⟩
theorem RowsAt.nil {k : IntKind} {w w' : World} {a : Option Addr} {L : List (List Int)} (h : RowsAt k w a L) (hk : Keeps Nil w w') : RowsAt k w' a L := fun i hi =>
  let ⟨b, off, a', c', e, h1, h2⟩ := h i hi; ⟨b, off, a', c', e, hk.cell h1 (fun h => h), h2.keeps hk (fun _ _ h => h)⟩
/-- Slices of slots and of sectors read as a leaf. -/
structure LfAt (w : World) (sa ba : Option Addr) (x : Lf) : Prop where
  sl : SlotsAt w sa x.sl
  se : RowsAt .u8 w ba x.se
theorem LfAt.nil {w w' : World} {sa ba : Option Addr} {x : Lf} (h : LfAt w sa ba x) (hk : Keeps Nil w w') : LfAt w' sa ba x := ⟨h.sl.nil hk, h.se.nil hk⟩
/-- lengths that may be -/
def LfOk (x : Lf) : Prop := x.sl.length ≤ 9223372036854775807 ∧ x.se.length ≤ 9223372036854775807 ∧ ∀ i (_ : i < x.se.length), x.se[i].length ≤ 9223372036854775807

/-- the first place of which p holds, or -1 -/
def firstI {α : Type} (p : α → Bool) : List α → Nat → Int
  | [], _ => -1
  | x :: r, i => if p x = true then (i : Int) else firstI p r (i + 1)
theorem firstI_any {α : Type} (p : α → Bool) : ∀ (L : List α) (i : Nat), decide (0 ≤ firstI p L i) = L.any p
  | [], _ => rfl
  | x :: r, i => by
    rw [firstI, List.any_cons]
    by_cases h : p x = true
    · rw [if_pos h, h]; simp
    · rw [if_neg h, firstI_any p r (i + 1)]; simp [h]
theorem firstI_drop {α : Type} (p : α → Bool) {L : List α} {q : Nat} (h : q < L.length) : firstI p (L.drop q) q = if p L[q] = true then (q : Int) else firstI p (L.drop (q + 1)) (q + 1) := by
  rw [List.drop_eq_getElem_cons h, firstI]

def slBad (s : Sl) : Bool := decide (s.st < 0 ∨ 3 < s.st ∨ 281474976710656 ≤ s.seq)
set_option maxHeartbeats 1000000 in
theorem bad30 (s : Sl) (w : World) : Calls Try.prog 30 #[.agg #[.int .u32 s.key, .int .i64 s.st, .int .u64 s.seq]] w fun e w' => e = .returned (.bool (slBad s)) ∧ Keeps Nil w w' := by
  obtain ⟨ks, ss, qs⟩ := s
  simp only
  have hb : slBad ⟨ks, ss, qs⟩ = decide (ss < 0 ∨ 3 < ss ∨ 281474976710656 ≤ qs) := rfl
  have hb' := Lib.hid hb
  clear hb
  by_cases h1 : ss < 0
  · have e := Lib.hid (show slBad ⟨ks, ss, qs⟩ = true by rw [hb'.out]; exact decide_eq_true (.inl h1))
    have d1 := decide_eq_true h1
    go_enter Try.func30, Try.ntmps30
    go_wp2_with fail
    go_ret
    exact ⟨ret_bool e.out.symm, (Keeps.refl _ _).alloc _⟩
  · have d1 := decide_eq_false h1
    by_cases h2 : 3 < ss
    · have e := Lib.hid (show slBad ⟨ks, ss, qs⟩ = true by rw [hb'.out]; exact decide_eq_true (.inr (.inl h2)))
      have d2 := decide_eq_true h2
      go_enter Try.func30, Try.ntmps30
      go_wp2_with fail
      go_ret
      exact ⟨ret_bool e.out.symm, (Keeps.refl _ _).alloc _⟩
    · have d2 := decide_eq_false h2
      by_cases h3 : 281474976710656 ≤ qs
      · have e := Lib.hid (show slBad ⟨ks, ss, qs⟩ = true by rw [hb'.out]; exact decide_eq_true (.inr (.inr h3)))
        have d3 := decide_eq_true h3
        go_enter Try.func30, Try.ntmps30
        go_wp2_with fail
        go_ret
        exact ⟨ret_bool e.out.symm, (Keeps.refl _ _).alloc _⟩
      · have e := Lib.hid (show slBad ⟨ks, ss, qs⟩ = false by rw [hb'.out]; exact decide_eq_false (by omega))
        have d3 := decide_eq_false h3
        go_enter Try.func30, Try.ntmps30
        go_wp2_with fail
        go_ret
        exact ⟨ret_bool e.out.symm, (Keeps.refl _ _).alloc _⟩

set_option maxHeartbeats 1000000 in
theorem index38 {w : World} {a : Option Addr} {cap : Nat} {L : List Sl} (h : SlotsAt w a L) (hl : L.length ≤ 9223372036854775807) :
    Calls Try.prog 38 #[.slice a L.length cap, .func (.func 30) #[] #[]] w fun e w' => e = .returned (.int .i64 (firstI slBad L 0)) ∧ Keeps Nil w w' := by
  have h' := Lib.hid h
  clear h
  go_enter Try.func38, Try.ntmps38
  go_wp2_with fail
  go_loopw [5, 8] (fun _ c wx => ∃ q : Nat, q ≤ L.length ∧ c = .int .i64 q ∧ Keeps Nil w wx ∧ Hid (firstI slBad L 0 = firstI slBad (L.drop q) q)) (fun _ c _ => L.length - (intOf c).toNat)
  case atStart => exact ⟨0, Nat.zero_le _, rfl, Keeps.refl _ _, rfl⟩
  case round =>
    obtain ⟨q, hq, rfl, hK, hI⟩ := hrel
    have hK' := Lib.hid hK
    by_cases hlt : q < L.length
    · obtain ⟨b, off, rfl, c0, c1, c2⟩ := (h'.out.nil hK) q hlt
      have hd := Lib.hid (firstI_drop slBad hlt)
      obtain ⟨s, hs⟩ : ∃ s, L[q] = s := ⟨_, rfl⟩
      rw [hs] at c0 c1 c2 hd
      have hC := Lib.hid (fun W => bad30 s W)
      obtain ⟨ks, ss, qs⟩ := s
      clear hK hs
      simp only at c0 c1 c2 hC
      cases hg : slBad ⟨ks, ss, qs⟩
      · have hI2 := Lib.hid (hI.out.trans (hd.out.trans (if_neg (by rw [hg]; decide))))
        have hC2 := Lib.hid (show ∀ W, Calls Try.prog 30 #[.agg #[.int .u32 ks, .int .i64 ss, .int .u64 qs]] W fun e w' => e = .returned (.bool false) ∧ Keeps Nil W w' from fun W => by have := hC.out W; rw [hg] at this; exact this)
        clear hI hd hC hg
        go_wp2_with fail
        refine (hC2.out _).mono ?_
        rintro e w3 ⟨rfl, hk3⟩
        have hk3' := Lib.hid hk3
        clear hk3
        go_wp2_with fail
        go_roundw
        case rel => exact ⟨q + 1, by omega, by go_num, hK'.out.trans hk3'.out, hI2⟩
        case measure => simp [intOf]; omega
      · have hI2 := Lib.hid (hI.out.trans (hd.out.trans (if_pos hg)))
        have hC2 := Lib.hid (show ∀ W, Calls Try.prog 30 #[.agg #[.int .u32 ks, .int .i64 ss, .int .u64 qs]] W fun e w' => e = .returned (.bool true) ∧ Keeps Nil W w' from fun W => by have := hC.out W; rw [hg] at this; exact this)
        clear hI hd hC hg
        go_wp2_with fail
        refine (hC2.out _).mono ?_
        rintro e w3 ⟨rfl, hk3⟩
        have hk3' := Lib.hid hk3
        clear hk3
        go_wp2_with fail
        go_ret
        exact ⟨ret_int hI2.out.symm, hK'.out.trans hk3'.out⟩
    · have hI2 := Lib.hid (show firstI slBad L 0 = -1 by rw [hI.out, List.drop_eq_nil_of_le (by omega)]; rfl)
      clear hI hK
      go_wp2_with fail
      go_ret
      exact ⟨ret_int hI2.out.symm, hK'.out⟩
theorem any29 {w : World} {a : Option Addr} {cap : Nat} {L : List Sl} (h : SlotsAt w a L) (hl : L.length ≤ 9223372036854775807) :
    Calls Try.prog 29 #[.slice a L.length cap, .func (.func 30) #[] #[]] w fun e w' => e = .returned (.bool (L.any slBad)) ∧ Keeps Nil w w' := by
  have hC := Lib.hid (index38 (cap := cap) h hl)
  have hA := Lib.hid (firstI_any slBad L 0)
  obtain ⟨f, hf⟩ : ∃ f, firstI slBad L 0 = f := ⟨_, rfl⟩
  rw [hf] at hC hA
  clear h hf
  go_enter Try.func29, Try.ntmps29
  go_wp2_with fail
  refine (hC.out).mono ?_
  rintro e w2 ⟨rfl, hk⟩
  have hk' := Lib.hid hk
  clear hk
  go_wp2_with fail
  go_ret
  exact ⟨ret_bool hA.out, hk'.out⟩

def secBad (S : Int) (d : List Int) : Bool := decide (d.length ≠ 0 ∧ (d.length : Int) ≠ S)
set_option maxHeartbeats 1000000 in
theorem bad32 {w : World} {lb : Nat} {S : Int} (a : Option Addr) (cap : Nat) (d : List Int) (hS : w.cell? ⟨lb, 0, none⟩ = some (.int .i64 S)) :
    Calls Try.prog 32 #[.slice a d.length cap, .pointer (some ⟨lb, 0, none⟩)] w fun e w' => e = .returned (.bool (secBad S d)) ∧ w' = w := by
  obtain ⟨n, hn⟩ : ∃ n, d.length = n := ⟨_, rfl⟩
  have hb' := Lib.hid (show secBad S d = decide (n ≠ 0 ∧ (n : Int) ≠ S) by rw [← hn]; rfl)
  rw [hn]
  clear hn
  by_cases h1 : n = 0
  · subst h1
    have e := Lib.hid (show secBad S d = false by rw [hb'.out]; simp)
    go_enter Try.func32, Try.ntmps32
    go_wp2_with fail
    go_ret
    exact ⟨ret_bool e.out.symm, rfl⟩
  · have d1 : ((n : Int) != 0) = true := by simpa using h1
    have d1' : (n != 0) = true := by simpa using h1
    by_cases h2 : (n : Int) = S
    · have e := Lib.hid (show secBad S d = false by rw [hb'.out]; simp [h2])
      have d2 : ((n : Int) != S) = false := by simpa using h2
      clear h2
      go_enter Try.func32, Try.ntmps32
      go_wp2_with fail
      go_ret
      exact ⟨ret_bool e.out.symm, rfl⟩
    · have e := Lib.hid (show secBad S d = true by rw [hb'.out]; exact decide_eq_true ⟨h1, h2⟩)
      have d2 : ((n : Int) != S) = true := by simpa using h2
      clear h1 h2
      go_enter Try.func32, Try.ntmps32
      go_wp2_with fail
      go_ret
      exact ⟨ret_bool e.out.symm, rfl⟩
set_option maxHeartbeats 1000000 in
theorem index39 {w : World} {a : Option Addr} {cap lb : Nat} {S : Int} {L : List (List Int)} (h : RowsAt .u8 w a L) (hS : w.cell? ⟨lb, 0, none⟩ = some (.int .i64 S)) (hl : L.length ≤ 9223372036854775807) :
    Calls Try.prog 39 #[.slice a L.length cap, .func (.func 32) #[] #[.pointer (some ⟨lb, 0, none⟩)]] w fun e w' => e = .returned (.int .i64 (firstI (secBad S) L 0)) ∧ Keeps Nil w w' := by
  have h' := Lib.hid h
  have hS' := Lib.hid hS
  clear h hS
  go_enter Try.func39, Try.ntmps39
  go_wp2_with fail
  go_loopw [5, 8] (fun _ c wx => ∃ q : Nat, q ≤ L.length ∧ c = .int .i64 q ∧ Keeps Nil w wx ∧ Hid (firstI (secBad S) L 0 = firstI (secBad S) (L.drop q) q)) (fun _ c _ => L.length - (intOf c).toNat)
  case atStart => exact ⟨0, Nat.zero_le _, rfl, Keeps.refl _ _, rfl⟩
  case round =>
    obtain ⟨q, hq, rfl, hK, hI⟩ := hrel
    have hK' := Lib.hid hK
    by_cases hlt : q < L.length
    · obtain ⟨b, off, a', c', rfl, c0, -⟩ := (h'.out.nil hK) q hlt
      have hd := Lib.hid (firstI_drop (secBad S) hlt)
      obtain ⟨d, hs⟩ : ∃ d, L[q] = d := ⟨_, rfl⟩
      rw [hs] at c0 hd
      have hC := Lib.hid (bad32 a' c' d (hK.cell hS'.out (fun h => h)))
      clear hK hs
      cases hg : secBad S d
      · have hI2 := Lib.hid (hI.out.trans (hd.out.trans (if_neg (by rw [hg]; decide))))
        rw [hg] at hC
        clear hI hd hg
        go_wp2_with fail
        refine (hC.out).mono ?_
        rintro e w3 ⟨rfl, rfl⟩
        go_wp2_with fail
        go_roundw
        case rel => exact ⟨q + 1, by omega, by go_num, hK'.out, hI2⟩
        case measure => simp [intOf]; omega
      · have hI2 := Lib.hid (hI.out.trans (hd.out.trans (if_pos hg)))
        rw [hg] at hC
        clear hI hd hg
        go_wp2_with fail
        refine (hC.out).mono ?_
        rintro e w3 ⟨rfl, rfl⟩
        go_wp2_with fail
        go_ret
        exact ⟨ret_int hI2.out.symm, hK'.out⟩
    · have hI2 := Lib.hid (show firstI (secBad S) L 0 = -1 by rw [hI.out, List.drop_eq_nil_of_le (by omega)]; rfl)
      clear hI hK
      go_wp2_with fail
      go_ret
      exact ⟨ret_int hI2.out.symm, hK'.out⟩
theorem any31 {w : World} {a : Option Addr} {cap lb : Nat} {S : Int} {L : List (List Int)} (h : RowsAt .u8 w a L) (hS : w.cell? ⟨lb, 0, none⟩ = some (.int .i64 S)) (hl : L.length ≤ 9223372036854775807) :
    Calls Try.prog 31 #[.slice a L.length cap, .func (.func 32) #[] #[.pointer (some ⟨lb, 0, none⟩)]] w fun e w' => e = .returned (.bool (L.any (secBad S))) ∧ Keeps Nil w w' := by
  have hC := Lib.hid (index39 (cap := cap) h hS hl)
  have hA := Lib.hid (firstI_any (secBad S) L 0)
  obtain ⟨f, hf⟩ : ∃ f, firstI (secBad S) L 0 = f := ⟨_, rfl⟩
  rw [hf] at hC hA
  clear h hf hS
  go_enter Try.func31, Try.ntmps31
  go_wp2_with fail
  refine (hC.out).mono ?_
  rintro e w2 ⟨rfl, hk⟩
  have hk' := Lib.hid hk
  clear hk
  go_wp2_with fail
  go_ret
  exact ⟨ret_bool hA.out, hk'.out⟩
end Go.Proofs.Ytdgcbjkopmlegaa
