/- walks of New (both), and of the library functions that it calls -/
import Derived.Test.YtikofabijdkbjaaA
import Derived.Deep.DeepMust
namespace Go.Proofs.Ytikofabijdkbjaa
open Go.RowKit

theorem Try.info3 : (Try.prog.info? 3).map (fun i => (i.zero, i.size, i.bytes)) = some (some (.int .i64 0), 1, 8) := by kernel_rfl

def badI (n : Int) : Bool := decide (n < 1 ∨ 64 < n)
theorem badI_yes {n : Int} (h : n < 1 ∨ 64 < n) : badI n = true := by simp [badI, h]
theorem badI_no {n : Int} (h1 : 1 ≤ n) (h2 : n ≤ 64) : badI n = false := by simp [badI]; omega

set_option maxHeartbeats 400000 in
theorem bad_any (n : Int) (w : World) : Calls Try.prog 14 #[.int .i64 n] w fun e w' => e = .returned (.bool (badI n)) ∧ w' = w := by
  by_cases h1 : n < 1
  · rw [badI_yes (.inl h1)]
    go_enter Try.func14, Try.ntmps14
    go_wp2
    go_ret
    exact ⟨rfl, rfl⟩
  · by_cases h2 : 64 < n
    · rw [badI_yes (.inr h2)]
      go_enter Try.func14, Try.ntmps14
      go_wp2
      go_ret
      exact ⟨rfl, rfl⟩
    · rw [badI_no (by omega) (by omega)]
      go_enter Try.func14, Try.ntmps14
      go_wp2
      go_ret
      exact ⟨rfl, rfl⟩

def firstBad (xs : List Int) (k : Nat) : Nat → Int
  | 0 => -1
  | f + 1 => if badI (gi xs k) then k else firstBad xs (k + 1) f
theorem firstBad_yes {xs : List Int} {k n : Nat} (hk : k < n) (h : badI (gi xs k) = true) : firstBad xs k (n - k) = k := by
  obtain ⟨f, hf⟩ : ∃ f, n - k = f + 1 := ⟨n - k - 1, by omega⟩
  rw [hf, firstBad, if_pos h]
theorem firstBad_no {xs : List Int} {k n : Nat} (hk : k < n) (h : badI (gi xs k) = false) : firstBad xs k (n - k) = firstBad xs (k + 1) (n - (k + 1)) := by
  obtain ⟨f, hf⟩ : ∃ f, n - k = f + 1 := ⟨n - k - 1, by omega⟩
  have hf' : n - (k + 1) = f := by omega
  rw [hf, hf', firstBad, h]; rfl
theorem firstBad_end {xs : List Int} {k n : Nat} (hk : n ≤ k) : firstBad xs k (n - k) = -1 := by
  have hf' : n - k = 0 := by omega
  rw [hf', firstBad]

set_option maxHeartbeats 400000 in
theorem indexFunc_any (a : Option Addr) (cap : Nat) (xs : List Int) (w : World) (hx : IntsAt w a xs) (hm : xs.length ≤ maxLen) :
    Calls Try.prog 17 #[.slice a xs.length cap, .func (.func 14) #[] #[]] w fun e w' => e = .returned (.int .i64 (firstBad xs 0 xs.length)) ∧ w' = w := by
  unfold maxLen at hm
  have hx' := Lib.hid hx
  clear hx
  go_enter Try.func17, Try.ntmps17
  go_wp2_with fail
  go_loop [8] (fun i => ∃ k : Nat, k ≤ xs.length ∧ i = .int .i64 k ∧ Hid (firstBad xs 0 xs.length = firstBad xs k (xs.length - k))) (fun i => xs.length - (intOf i).toNat)
  case atStart => exact ⟨0, Nat.zero_le _, rfl, rfl⟩
  case round =>
    obtain ⟨k, hk, rfl, hrel⟩ := hrel
    by_cases hlt : k < xs.length
    · obtain ⟨b, off, rfl, hc⟩ := hx'.out k hlt
      cases hg : badI (gi xs k)
      · have hrel2 := Lib.hid (hrel.out.trans (firstBad_no hlt hg))
        clear hrel
        have hg' := Lib.hid hg
        clear hg
        go_wp2_with (go_at_call 14; refine (bad_any _ _).mono ?_; rw [hg'.out]; rintro e w' ⟨rfl, rfl⟩)
        go_round
        case rel => exact ⟨k + 1, by omega, by go_num, hrel2⟩
        case measure => simp [intOf]; omega
      · have hrel2 := Lib.hid (hrel.out.trans (firstBad_yes hlt hg))
        clear hrel
        have hg' := Lib.hid hg
        clear hg
        go_wp2_with (go_at_call 14; refine (bad_any _ _).mono ?_; rw [hg'.out]; rintro e w' ⟨rfl, rfl⟩)
        go_ret
        rw [hrel2.out]
        exact ⟨rfl, rfl⟩
    · have hrel2 := Lib.hid (hrel.out.trans (firstBad_end (by omega)))
      clear hrel
      go_wp2
      go_ret
      rw [hrel2.out]
      exact ⟨rfl, rfl⟩

set_option maxHeartbeats 400000 in
theorem contains_any (a : Option Addr) (cap : Nat) (xs : List Int) (w : World) (hx : IntsAt w a xs) (hm : xs.length ≤ maxLen) :
    Calls Try.prog 13 #[.slice a xs.length cap, .func (.func 14) #[] #[]] w fun e w' => e = .returned (.bool (decide (0 ≤ firstBad xs 0 xs.length))) ∧ w' = w := by
  go_enter Try.func13, Try.ntmps13
  go_wp2_with (go_at_call 17; refine (indexFunc_any _ _ _ _ hx hm).mono ?_; rintro e w' ⟨rfl, rfl⟩)
  go_ret
  exact ⟨rfl, rfl⟩

def IntRow (w : World) (a : Option Addr) (cap : Nat) (xs : List Int) : Prop := RowAt w 3 1 a xs.length cap (xs.map (.int .i64))

theorem IntRow.ints {w : World} {a : Option Addr} {cap : Nat} {xs : List Int} (h : IntRow w a cap xs) : IntsAt w a xs := by
  intro j hj
  rcases h.form with ⟨_, h2, _⟩ | ⟨g, cur, ha, hn, hh, hs, ht⟩
  · omega
  · refine ⟨g, 0, ha, ?_⟩
    subst ha
    have := h.src.2.2 ⟨g, 0, none⟩ rfl j (.int .i64 (gi xs j)) (by simp [gi_eq hj, hj])
    rw [Addr.add_lit] at this; exact this

theorem IntsAt.src {w : World} {a : Option Addr} {xs : List Int} (h : IntsAt w a xs) (hn : a = none → xs.length = 0) : Src w a 1 xs.length (xs.map (.int .i64)) := by
  refine ⟨by simp, hn, ?_⟩
  intro ad ha j u hu
  have hj : j < xs.length := by
    have := (List.getElem?_eq_some_iff.1 hu).1
    simpa using this
  obtain ⟨b, off, hb, hc⟩ := h j hj
  rw [ha] at hb; cases hb
  simp [hj] at hu
  rw [← gi_eq hj] at hu
  subst hu
  rw [Addr.add_lit]; exact hc

set_option maxHeartbeats 400000 in
theorem clone_any (a : Option Addr) (cap : Nat) (xs : List Int) (w : World) (hx : IntsAt w a xs) (hn : a = none → cap = 0 ∧ xs.length = 0) (hm : xs.length * 8 ≤ 140737488351232) :
    Calls Try.prog 15 #[.slice a xs.length cap] w fun e w' => ∃ a' cap', e = .returned (.slice a' xs.length cap') ∧ IntRow w' a' cap' xs ∧ Keeps Nil w w' ∧ (∀ g, blk a' = some g → w.heap.size ≤ g) := by
  obtain ⟨i0, hi, hz0, hz1, hz2⟩ := info_parts Try.info3
  have hnil := fun (w : World) a n c => Lib.run_eql_slice_nil (P := Try.prog) w 22 3 a n c 0 0 Try.underlying22
  have hs := hx.src (fun h => (hn h).2)
  have hs' := Lib.hid hs
  have hn' := Lib.hid hn
  clear hs hx hn
  cases a with
  | none =>
    obtain ⟨hc, hl⟩ := hn'.out rfl
    have hx0 : xs = [] := List.eq_nil_of_length_eq_zero hl
    subst hx0
    subst hc
    go_enter Try.func15, Try.ntmps15
    go_wp2
    go_ret
    exact ⟨none, 0, rfl, RowAt.nil _ _ _, Keeps.refl _ _, fun g h => by cases h⟩
  | some ad =>
    go_enter Try.func15, Try.ntmps15
    go_wp2_with (at_builtin; refine wpList_app _ rfl _ _ 22 rfl 3 i0 (.int .i64 0) 1 8 Try.underlying22 hi hz0 hz1 hz2 rfl (by decide) _ 0 0 [] rfl _ xs.length _ (xs.map (.int .i64)) rfl ?_ ?c1 ?c2 ?c3 ?c4 ?c5 ?c6; intro a' cap' w1 hr hk hb)
    case c1 => exact ⟨rfl, .inr ⟨w.heap.size, 0, #[], rfl, Nat.zero_le _, heap_alloc_new _ _, Nat.le_refl _, Nat.zero_le _, rfl, rfl⟩⟩
    case c2 => exact (hs'.out.keeps ((Keeps.refl Nil _).alloc _))
    case c3 => simp
    case c4 => simp [Value.oneCell']
    case c5 => simp [maxLen]; omega
    case c6 => simp; omega
    go_ret
    refine ⟨a', cap', by simp, by unfold IntRow; simpa using hr, ?_, ?_⟩
    · exact ((Keeps.refl Nil w).alloc _).trans' hk (fun j hj => by simp [blk] at hj; omega)
    · intro g hg
      rcases hb with hb | ⟨hb, _⟩
      · rw [hb] at hg; simp [blk] at hg; omega
      · rw [hb] at hg; simp at hg; omega

/-- all in range -/
def allOk (xs : List Int) : Prop := ∀ j, j < xs.length → 1 ≤ gi xs j ∧ gi xs j ≤ 64
theorem firstBad_all {xs : List Int} (h : allOk xs) : ∀ f k, k + f = xs.length → firstBad xs k f = -1
  | 0, k, _ => rfl
  | f + 1, k, hk => by
    have := h k (by omega)
    rw [firstBad, badI_no this.1 this.2]
    exact firstBad_all h f (k + 1) (by omega)
theorem firstBad_ge {xs : List Int} : ∀ f k, k + f = xs.length → (∃ j, k ≤ j ∧ j < xs.length ∧ (gi xs j < 1 ∨ 64 < gi xs j)) → 0 ≤ firstBad xs k f
  | 0, k, hk, ⟨j, h1, h2, _⟩ => by omega
  | f + 1, k, hk, ⟨j, h1, h2, h3⟩ => by
    rw [firstBad]
    split
    · omega
    · rename_i hb
      refine firstBad_ge f (k + 1) (by omega) ⟨j, ?_, h2, h3⟩
      by_cases e : k = j
      · subst e; rw [badI_yes h3] at hb; exact absurd rfl hb
      · omega
theorem not_allOk {xs : List Int} (h : ¬ allOk xs) : ∃ j, 0 ≤ j ∧ j < xs.length ∧ (gi xs j < 1 ∨ 64 < gi xs j) := by
  apply Classical.byContradiction
  intro hn
  apply h
  intro j hj
  apply Classical.byContradiction
  intro hc
  exact hn ⟨j, Nat.zero_le _, hj, by omega⟩

def NewOk (xs : List Int) : Prop := 1 ≤ xs.length ∧ xs.length ≤ 8 ∧ allOk xs

set_option maxHeartbeats 400000 in
theorem new_yes (a : Option Addr) (cap : Nat) (xs : List Int) (w : World) (hx : IntsAt w a xs) (hn : a = none → cap = 0 ∧ xs.length = 0) (hok : NewOk xs) :
    Calls Try.prog 8 #[.slice a xs.length cap] w fun e w' => ∃ A B, e = .returned (.tuple #[.pointer (some ⟨A, 0, none⟩), .int .i64 0]) ∧ ArbAt w' A B ⟨xs, 0, 0, true⟩ ∧ Keeps Nil w w' ∧ w.heap.size ≤ A ∧ w.heap.size ≤ B := by
  obtain ⟨h1, h2, h3⟩ := hok
  have hf := Lib.hid (firstBad_all h3 xs.length 0 (by omega))
  have hx' := Lib.hid hx
  have hn' := Lib.hid hn
  clear hx hn h3
  go_enter Try.func8, Try.ntmps8
  go_wp2_with (go_at_call 13; refine (contains_any _ _ _ _ hx'.out (by simp [maxLen]; omega)).mono ?_; rw [hf.out]; rintro e w' ⟨rfl, rfl⟩)
  refine (clone_any _ _ _ _ hx'.out hn'.out (by omega)).mono ?_
  rintro e w1 ⟨a', cap', rfl, hr, hk, hb⟩
  have hr' := Lib.hid hr
  have hk' := Lib.hid hk
  have hb' := Lib.hid hb
  clear hr hk hb
  go_wp2
  go_ret2
  rcases hr'.out.form with ⟨_, h5, _⟩ | ⟨g, cur, h5, _, h7, _⟩
  · omega
  · subst h5
    have hg := hb'.out g rfl
    have hlt := lt_of_heap h7
    have hs := hk'.out.size
    refine ⟨_, g, rfl, ⟨cap', heap_alloc_new _ _, by omega, fun j hj => ?_⟩, hk'.out.alloc _, by omega, hg⟩
    obtain ⟨b, off, h8, h9⟩ := hr'.out.ints j hj
    cases h8
    rw [Nat.zero_add] at h9
    exact ((Keeps.refl Nil w1).alloc _).cell h9 (fun h => h)

set_option maxHeartbeats 400000 in
theorem new_no (a : Option Addr) (cap : Nat) (xs : List Int) (w : World) (hx : IntsAt w a xs) (hm : xs.length ≤ maxLen) (hno : ¬ NewOk xs) :
    Calls Try.prog 8 #[.slice a xs.length cap] w fun e w' => e = .returned (.tuple #[.pointer none, .int .i64 1]) ∧ w' = w := by
  have hx' := Lib.hid hx
  have hm' := Lib.hid hm
  clear hx
  by_cases h1 : xs.length < 1
  · have h1' : decide ((xs.length : Int) < 1) = true := by simp; omega
    clear hm hno
    go_enter Try.func8, Try.ntmps8
    go_wp2_with fail
    go_ret2
    exact ⟨rfl, rfl⟩
  · by_cases h2 : 8 < xs.length
    · have h1' : decide ((xs.length : Int) < 1) = false := by simp; omega
      have h2' : decide ((8 : Int) < (xs.length : Int)) = true := by simp; omega
      clear hm hno
      go_enter Try.func8, Try.ntmps8
      go_wp2_with fail
      go_ret2
      exact ⟨rfl, rfl⟩
    · have h3 : ¬ allOk xs := fun h => hno ⟨by omega, by omega, h⟩
      have hf := firstBad_ge xs.length 0 (by omega) (not_allOk h3)
      have hf' : decide (0 ≤ firstBad xs 0 xs.length) = true := by simpa using hf
      have hf'' := Lib.hid hf'
      have h1' : decide ((xs.length : Int) < 1) = false := by simp; omega
      have h2' : decide ((8 : Int) < (xs.length : Int)) = false := by simp; omega
      clear hm hno hf hf' h3
      go_enter Try.func8, Try.ntmps8
      go_wp2_with (go_at_call 13; refine (contains_any _ _ _ _ hx'.out hm'.out).mono ?_; rw [hf''.out]; rintro e w' ⟨rfl, rfl⟩)
      go_ret2
      exact ⟨rfl, rfl⟩

end Go.Proofs.Ytikofabijdkbjaa
