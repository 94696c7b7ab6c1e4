/- awake; both arbiters side by side -/
import Derived.Test.YtikofabijdkbjaaD
namespace Go.Proofs.Ytikofabijdkbjaa
open Go.RowKit

theorem next_any (A B : Nat) (s : Arb) (a : Option Addr) (cap : Nat) (bs : List Bool) (w : World) (hs : s.Ok) (hA : ArbAt w A B s) (hb : BoolsAt w a bs) :
    Calls Try.prog 10 #[.pointer (some ⟨A, 0, none⟩), .slice a bs.length cap] w fun e w' => e = .returned (.int .i64 (s.next bs).1) ∧ ArbAt w' A B (s.next bs).2 ∧ Keeps (· = A) w w' := by
  by_cases ht : s.takes bs
  · exact next_take A B s a cap bs w hs hA hb ht
  · exact next_seek A B s a cap bs w hs hA hb ht

/-- the state behind New -/
def Arb.start (xs : List Int) : Arb := ⟨xs, 0, 0, true⟩
theorem Arb.start_ok {xs : List Int} (h : NewOk xs) : (Arb.start xs).Ok :=
  ⟨h.1, h.2.1, h.2.2, h.1, Int.le_refl _, (by decide : (0 : Int) ≤ 64)⟩

theorem Arb.next_bursts (s : Arb) (bs : List Bool) : (s.next bs).2.bursts = s.bursts := by
  unfold Arb.next
  split
  · rfl
  · split <;> rfl
theorem seek_lt {s : Arb} {bs : List Bool} : ∀ {f k i : Nat}, s.seek bs k f = some i → k ≤ i ∧ i < k + f ∧ gb bs (s.q i) = true
  | 0, k, i, h => by cases h
  | f + 1, k, i, h => by
    rw [Arb.seek] at h
    split at h
    · rename_i hg
      cases h
      exact ⟨Nat.le_refl _, by omega, hg⟩
    · have := seek_lt h
      exact ⟨by omega, by omega, this.2.2⟩
theorem Arb.next_ok {s : Arb} (hs : s.Ok) (bs : List Bool) : (s.next bs).2.Ok := by
  unfold Arb.next
  split
  · rename_i h
    have := (hs.rng s.pos hs.pos).2
    exact ⟨hs.len0, hs.len8, hs.rng, hs.pos, by have := h.1; show 0 ≤ s.used + 1; omega, by have := h.2.1; show s.used + 1 ≤ 64; omega⟩
  · split
    · rename_i i h
      have := seek_lt h
      exact ⟨hs.len0, hs.len8, hs.rng, Arb.q_lt hs (by omega), by show (0:Int) ≤ 1; omega, by show (1:Int) ≤ 64; omega⟩
    · exact ⟨hs.len0, hs.len8, hs.rng, hs.pos, by show (0:Int) ≤ 0; omega, by show (0:Int) ≤ 64; omega⟩
theorem Arb.next_fresh {s : Arb} (hs : s.fresh = true → s.used = 0) (bs : List Bool) : (s.next bs).2.fresh = true → (s.next bs).2.used = 0 := by
  unfold Arb.next
  split
  · rename_i h
    intro hf
    have := hs hf
    have := h.1
    omega
  · split
    · intro h; cases h
    · intro _; rfl

set_option maxHeartbeats 400000 in
theorem refNew_no (a : Option Addr) (cap : Nat) (xs : List Int) (w : World) (h : xs.length < 1 ∨ 8 < xs.length) (hm : xs.length ≤ maxLen) :
    Calls Try.prog 9 #[.slice a xs.length cap] w fun e w' => e = .returned (.tuple #[.pointer none, .bool false]) ∧ w' = w := by
  unfold maxLen at hm
  by_cases h1 : xs.length < 1
  · have h1' : decide ((xs.length : Int) < 1) = true := decide_eq_true (by omega)
    clear h1
    go_enter Try.func9, Try.ntmps9
    go_wp2_with fail
    go_ret2
    exact ⟨rfl, rfl⟩
  · have h1' : decide ((xs.length : Int) < 1) = false := decide_eq_false (by omega)
    have h2' : decide ((8 : Int) < (xs.length : Int)) = true := decide_eq_true (by omega)
    go_enter Try.func9, Try.ntmps9
    go_wp2_with fail
    go_ret2
    exact ⟨rfl, rfl⟩

theorem bools_lit2 (w : World) (x y : Bool) : BoolsAt (w.alloc (.cells #[.bool x, .bool y] 4)) (some ⟨w.heap.size, 0, none⟩) [x, y] := by
  intro j hj
  refine ⟨w.heap.size, 0, rfl, ?_⟩
  rw [World.cell?_alloc_at _ _ _ _ rfl]
  match j, hj with
  | 0, _ => rfl
  | 1, _ => rfl
theorem ints_lit2 (w : World) (x y : Int) : IntsAt (w.alloc (.cells #[.int .i64 x, .int .i64 y] 3)) (some ⟨w.heap.size, 0, none⟩) [x, y] := by
  intro j hj
  refine ⟨w.heap.size, 0, rfl, ?_⟩
  rw [World.cell?_alloc_at _ _ _ _ rfl]
  match j, hj with
  | 0, _ => rfl
  | 1, _ => rfl

set_option maxHeartbeats 1000000 in
theorem awake_any (w : World) : Calls Try.prog 7 #[] w fun e w' => e = .returned (.bool true) ∧ Keeps Nil w w' := by
  have hn : NewOk [2, 1] := ⟨by decide, by decide, fun j hj => by
    match j, hj with
    | 0, _ => decide
    | 1, _ => decide⟩
  have hn' := Lib.hid hn
  have hi := Lib.hid (ints_lit2 w 2 1)
  clear hn
  go_enter Try.func7, Try.ntmps7
  go_wp2_with fail
  refine (new_yes (some ⟨w.heap.size, 0, none⟩) 2 [2, 1] _ hi.out (fun h => by cases h) hn'.out).mono ?_
  rintro e w1 ⟨A, B, rfl, hA, hk, hA1, hB1⟩
  have hA' := Lib.hid hA
  have hk' := Lib.hid hk
  have hlA := Lib.hid hA1
  have hlB := Lib.hid hB1
  have hAw : A < w1.heap.size := by obtain ⟨_, h, _⟩ := hA; exact lt_of_heap h
  have hAw' := Lib.hid hAw
  clear hA hk hA1 hB1 hi hAw
  go_wp2_with fail
  have e1 : (Arb.start [2, 1]).next [true, true] = (0, ⟨[2, 1], 0, 1, false⟩) := rfl
  have e2 : (⟨[2, 1], 0, 1, false⟩ : Arb).next [true, true] = (0, ⟨[2, 1], 0, 2, false⟩) := rfl
  have e3 : (⟨[2, 1], 0, 2, false⟩ : Arb).next [true, true] = (1, ⟨[2, 1], 1, 1, false⟩) := rfl
  have e4 : (⟨[2, 1], 1, 1, false⟩ : Arb).next [true, true] = (0, ⟨[2, 1], 0, 1, false⟩) := rfl
  have e5 : (⟨[2, 1], 0, 1, false⟩ : Arb).next [] = (-1, ⟨[2, 1], 0, 0, false⟩) := rfl
  have b1 := bools_lit2 w1 true true
  have k0 := (Keeps.refl Nil w1).alloc (.cells #[.bool true, .bool true] 4)
  have a1 := hA'.out.keeps k0 (fun h => h) (fun h => h)
  have o1 := Arb.start_ok hn'.out
  have c1 := next_any A B (Arb.start [2, 1]) _ 2 [true, true] _ o1 a1 b1
  have o2 := Arb.next_ok o1 [true, true]
  rw [e1] at c1 o2
  have k0' := Lib.hid k0
  clear k0 a1
  refine c1.mono ?_
  rintro e w2 ⟨rfl, a2, k2⟩
  have b2 := b1.keeps k2 (fun b off h hb => by cases h; have := hAw'.out; omega)
  have c2 := next_any A B _ _ 2 [true, true] _ o2 a2 b2
  have o3 := Arb.next_ok o2 [true, true]
  rw [e2] at c2 o3
  have a2' := Lib.hid a2
  have k2' := Lib.hid k2
  clear a2 k2
  have c2' := Lib.hid c2
  clear c2
  go_wp2_with fail
  refine c2'.out.mono ?_
  rintro e w3 ⟨rfl, a3, k3⟩
  have b3 := b2.keeps k3 (fun b off h hb => by cases h; have := hAw'.out; omega)
  have c3 := next_any A B _ _ 2 [true, true] _ o3 a3 b3
  have o4 := Arb.next_ok o3 [true, true]
  rw [e3] at c3 o4
  have a3' := Lib.hid a3
  have k3' := Lib.hid k3
  clear a3 k3
  have c3' := Lib.hid c3
  clear c3
  go_wp2_with fail
  refine c3'.out.mono ?_
  rintro e w4 ⟨rfl, a4, k4⟩
  have b4 := b3.keeps k4 (fun b off h hb => by cases h; have := hAw'.out; omega)
  have c4 := next_any A B _ _ 2 [true, true] _ o4 a4 b4
  have o5 := Arb.next_ok o4 [true, true]
  rw [e4] at c4 o5
  have a4' := Lib.hid a4
  have k4' := Lib.hid k4
  clear a4 k4
  have c4' := Lib.hid c4
  clear c4
  go_wp2_with fail
  refine c4'.out.mono ?_
  rintro e w5 ⟨rfl, a5, k5⟩
  have c5 := next_any A B _ none 0 [] _ o5 a5 (fun j hj => by cases hj)
  rw [e5] at c5
  have a5' := Lib.hid a5
  have k5' := Lib.hid k5
  clear a5 k5
  have c5' := Lib.hid c5
  clear c5
  go_wp2_with fail
  refine c5'.out.mono ?_
  rintro e w6 ⟨rfl, a6, k6⟩
  have a6' := Lib.hid a6
  have k6' := Lib.hid k6
  clear a6 k6
  go_wp2_with fail
  go_ret
  refine ⟨rfl, ?_⟩
  have hs := ((((k2'.out.trans k3'.out).trans k4'.out).trans k5'.out).trans k6'.out)
  exact ((((Keeps.refl Nil w).alloc _).trans hk'.out).trans k0'.out).trans' hs (fun j hj => .inr (by have := hlA.out; simp at this; omega))
end Go.Proofs.Ytikofabijdkbjaa
