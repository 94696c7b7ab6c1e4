/- walks of small functions -/
import Derived.Test.YtikofabijdkbjaaRows
import Derived.Test.YtikofabijdkbjaaBase
namespace Go.Proofs.Ytikofabijdkbjaa
open Go.RowKit

def absZ (n : Int) : Int := if n < 0 then -(n+1) else n

set_option maxHeartbeats 400000 in
theorem abs_any (a : Int) (w : World) (h0 : -9223372036854775808 ≤ a) (h1 : a ≤ 9223372036854775807) :
    Calls Try.prog 12 #[.int .i64 a] w fun e w' => e = .returned (.int .i64 (absZ a)) ∧ w = w' := by
  by_cases h : a < 0
  · go_enter Try.func12, Try.ntmps12
    go_wp2
    go_ret
    exact ⟨ret_int (by rw [absZ, if_pos h]), rfl⟩
  · go_enter Try.func12, Try.ntmps12
    go_wp2
    go_ret
    exact ⟨ret_int (by rw [absZ, if_neg (by omega)]), rfl⟩

set_option maxHeartbeats 400000 in
theorem is_any (R : Nat) (a : Option Addr) (cap : Nat) (bs : List Bool) (q : Nat) (w : World) (hR : w.cell? ⟨R, 0, none⟩ = some (.slice a bs.length cap)) (hb : BoolsAt w a bs) :
    Calls Try.prog 16 #[.int .i64 q, .pointer (some ⟨R, 0, none⟩)] w fun e w' => e = .returned (.bool (gb bs q)) ∧ w' = w := by
  by_cases h : q < bs.length
  · obtain ⟨b, off, rfl, hc⟩ := hb q h
    have h1 : decide ((q : Int) < bs.length) = true := by simp; omega
    go_enter Try.func16, Try.ntmps16
    go_wp2
    go_ret
    exact ⟨rfl, rfl⟩
  · have h1 : decide ((q : Int) < bs.length) = false := by simp; omega
    rw [gb_out (by omega)]
    go_enter Try.func16, Try.ntmps16
    go_wp2
    go_ret
    exact ⟨rfl, rfl⟩

theorem is_val (R : Nat) (a : Option Addr) (cap : Nat) (bs : List Bool) (q : Nat) (v : Bool) (w : World) (hv : gb bs q = v) (hR : w.cell? ⟨R, 0, none⟩ = some (.slice a bs.length cap)) (hb : BoolsAt w a bs) :
    Calls Try.prog 16 #[.int .i64 q, .pointer (some ⟨R, 0, none⟩)] w fun e w' => e = .returned (.bool v) ∧ w' = w := by
  subst hv; exact is_any R a cap bs q w hR hb

structure Arb where
  bursts : List Int
  pos : Nat
  used : Int
  fresh : Bool

def ArbAt (w : World) (A B : Nat) (s : Arb) : Prop :=
  ∃ cap, w.heap[A]? = some (.cells #[.slice (some ⟨B, 0, none⟩) s.bursts.length cap, .int .i64 s.pos, .int .i64 s.used, .bool s.fresh] 43 (0, 0)) ∧ B ≠ A ∧
    ∀ j, j < s.bursts.length → w.cell? ⟨B, j, none⟩ = some (.int .i64 (gi s.bursts j))

structure Arb.Ok (s : Arb) : Prop where
  len0 : 0 < s.bursts.length
  len8 : s.bursts.length ≤ 8
  rng : ∀ j, j < s.bursts.length → 1 ≤ gi s.bursts j ∧ gi s.bursts j ≤ 64
  pos : s.pos < s.bursts.length
  used0 : 0 ≤ s.used
  used1 : s.used ≤ 64

def Arb.q (s : Arb) (i : Nat) : Nat := if s.fresh then i else (s.pos + 1 + i) % s.bursts.length
def Arb.takes (s : Arb) (bs : List Bool) : Prop := 0 < s.used ∧ s.used < gi s.bursts s.pos ∧ gb bs s.pos = true
instance (s : Arb) (bs : List Bool) : Decidable (s.takes bs) := by unfold Arb.takes; exact inferInstance
def Arb.seek (s : Arb) (bs : List Bool) (k : Nat) : Nat → Option Nat
  | 0 => none
  | f + 1 => if gb bs (s.q k) then some k else Arb.seek s bs (k + 1) f
def Arb.next (s : Arb) (bs : List Bool) : Int × Arb :=
  if s.takes bs then ((s.pos : Int), { s with used := s.used + 1 })
  else match s.seek bs 0 s.bursts.length with
    | some i => ((s.q i : Int), { s with pos := s.q i, used := 1, fresh := false })
    | none => (-1, { s with used := 0 })

theorem next_of_takes {s : Arb} {bs : List Bool} (h : s.takes bs) : s.next bs = ((s.pos : Int), { s with used := s.used + 1 }) := by rw [Arb.next, if_pos h]
theorem next_of_some {s : Arb} {bs : List Bool} (h : ¬ s.takes bs) {i : Nat} (hf : s.seek bs 0 s.bursts.length = some i) : s.next bs = ((s.q i : Int), { s with pos := s.q i, used := 1, fresh := false }) := by
  rw [Arb.next, if_neg h, hf]
theorem next_of_none {s : Arb} {bs : List Bool} (h : ¬ s.takes bs) (hf : s.seek bs 0 s.bursts.length = none) : s.next bs = (-1, { s with used := 0 }) := by
  rw [Arb.next, if_neg h, hf]
theorem seek_yes {s : Arb} {bs : List Bool} {k n : Nat} (hk : k < n) (h : gb bs (s.q k) = true) : s.seek bs k (n - k) = some k := by
  obtain ⟨f, hf⟩ : ∃ f, n - k = f + 1 := ⟨n - k - 1, by omega⟩
  rw [hf, Arb.seek, if_pos h]
theorem seek_no {s : Arb} {bs : List Bool} {k n : Nat} (hk : k < n) (h : gb bs (s.q k) = false) : s.seek bs k (n - k) = s.seek bs (k + 1) (n - (k + 1)) := by
  obtain ⟨f, hf⟩ : ∃ f, n - k = f + 1 := ⟨n - k - 1, by omega⟩
  have hf' : n - (k + 1) = f := by omega
  rw [hf, hf', Arb.seek, h]; rfl
theorem seek_end {s : Arb} {bs : List Bool} {k n : Nat} (hk : n ≤ k) : s.seek bs k (n - k) = none := by
  have hf' : n - k = 0 := by omega
  rw [hf', Arb.seek]

theorem ArbAt.keeps {S : Nat → Prop} {w w' : World} {A B : Nat} {s : Arb} (h : ArbAt w A B s) (hk : Keeps S w w') (hA : ¬ S A) (hB : ¬ S B) : ArbAt w' A B s := by
  obtain ⟨cap, h1, h2, h3⟩ := h
  exact ⟨cap, hk.heap h1 hA, h2, fun j hj => hk.cell (h3 j hj) hB⟩
theorem ArbAt.setUsed {w : World} {A B : Nat} {s : Arb} (h : ArbAt w A B s) (u : Int) : ArbAt (w.setCell ⟨A, 2, none⟩ (.int .i64 u)) A B { s with used := u } := by
  obtain ⟨cap, h1, h2, h3⟩ := h
  exact ⟨cap, by have := heap_setCell_same h1 2 (.int .i64 u); simpa using this, h2, fun j hj => ((Keeps.refl (· = A) w).setCell (.inl rfl) _).cell (h3 j hj) h2⟩
theorem ArbAt.setPos {w : World} {A B : Nat} {s : Arb} (h : ArbAt w A B s) (u : Nat) : ArbAt (w.setCell ⟨A, 1, none⟩ (.int .i64 u)) A B { s with pos := u } := by
  obtain ⟨cap, h1, h2, h3⟩ := h
  exact ⟨cap, by have := heap_setCell_same h1 1 (.int .i64 u); simpa using this, h2, fun j hj => ((Keeps.refl (· = A) w).setCell (.inl rfl) _).cell (h3 j hj) h2⟩
theorem ArbAt.setFresh {w : World} {A B : Nat} {s : Arb} (h : ArbAt w A B s) (u : Bool) : ArbAt (w.setCell ⟨A, 3, none⟩ (.bool u)) A B { s with fresh := u } := by
  obtain ⟨cap, h1, h2, h3⟩ := h
  exact ⟨cap, by have := heap_setCell_same h1 3 (.bool u); simpa using this, h2, fun j hj => ((Keeps.refl (· = A) w).setCell (.inl rfl) _).cell (h3 j hj) h2⟩
theorem Arb.q_lt {s : Arb} (hs : s.Ok) {k : Nat} (hk : k < s.bursts.length) : s.q k < s.bursts.length := by
  unfold Arb.q; split
  · exact hk
  · exact Nat.mod_lt _ hs.len0

set_option maxHeartbeats 1000000 in
theorem next_take (A B : Nat) (s : Arb) (a : Option Addr) (cap : Nat) (bs : List Bool) (w : World) (hs : s.Ok) (hA : ArbAt w A B s) (hb : BoolsAt w a bs) (ht : s.takes bs) :
    Calls Try.prog 10 #[.pointer (some ⟨A, 0, none⟩), .slice a bs.length cap] w fun e w' => e = .returned (.int .i64 (s.next bs).1) ∧ ArbAt w' A B (s.next bs).2 ∧ Keeps (· = A) w w' := by
  obtain ⟨bcap, hAc, hBA, hB⟩ := hA
  have hAl := lt_of_heap hAc
  have hBp := hB s.pos hs.pos
  have hBl := lt_of_cell hBp
  have hA0 := cell_of_heap hAc 0
  have hA1 := cell_of_heap hAc 1
  have hA2 := cell_of_heap hAc 2
  have hA3 := cell_of_heap hAc 3
  have hAf := frozen_of_heap hAc
  have hmf : ∀ (fn : Fn) (first cap : Array Value) (w : World), (Instr.makeFunc fn first cap).run Try.prog w = .ok (.func fn first cap) w := fun _ _ _ _ => rfl
  simp at hA0 hA1 hA2 hA3
  have u0 := hs.used0
  have u1 := hs.used1
  have hk1 : Keeps Nil w (w.alloc (.cells #[.slice a bs.length cap] 33)) := (Keeps.refl _ _).alloc _
  have hb1 : BoolsAt (w.alloc (.cells #[.slice a bs.length cap] 33)) a bs := hb.keeps ((Keeps.refl Nil _).alloc _) (fun _ _ _ h => h)
  have hR1 : (w.alloc (.cells #[.slice a bs.length cap] 33)).cell? ⟨w.heap.size, 0, none⟩ = some (.slice a bs.length cap) := by
    rw [World.cell?_alloc_at _ _ _ _ rfl]; rfl
  have hlenlt : (s.pos : Int) < (s.bursts.length : Int) := by have := hs.pos; omega
  have hr := hs.rng s.pos hs.pos
  have hl8 := hs.len8
  rw [next_of_takes ht]
  obtain ⟨c1, c2, c3⟩ := ht
  have c1' : decide (0 < s.used) = true := by simp [c1]
  have c2' : decide (s.used < gi s.bursts s.pos) = true := by simp [c2]
  have hAt : ArbAt w A B s := ⟨bcap, hAc, hBA, hB⟩
  have hAt' := Lib.hid hAt
  clear hAt
  have hB' := Lib.hid hB
  have hb1' := Lib.hid hb1
  have hk1' := Lib.hid hk1
  have c3' := Lib.hid c3
  clear hAc hB hb hs hb1 hk1 c3
  go_enter Try.func10, Try.ntmps10
  go_wp2_with fail
  go_quiet ((go_at_call 16; exact Calls.quiet_of_same (is_val w.heap.size a cap bs s.pos true _ c3'.out hR1 hb1'.out)))
  go_wp2
  go_ret
  exact ⟨rfl, (hAt'.out.keeps (hk1'.out.drewN _) (fun h => h) (fun h => h)).setUsed _, ((hk1'.out.mono (fun _ h => h.elim)).drewN _).setCell (S := (· = A)) (p := ⟨A, 2, none⟩) (.inl rfl) _⟩
set_option maxHeartbeats 1000000 in
theorem next_seek (A B : Nat) (s : Arb) (a : Option Addr) (cap : Nat) (bs : List Bool) (w : World) (hs : s.Ok) (hA : ArbAt w A B s) (hb : BoolsAt w a bs) (ht : ¬ s.takes bs) :
    Calls Try.prog 10 #[.pointer (some ⟨A, 0, none⟩), .slice a bs.length cap] w fun e w' => e = .returned (.int .i64 (s.next bs).1) ∧ ArbAt w' A B (s.next bs).2 ∧ Keeps (· = A) w w' := by
  obtain ⟨bcap, hAc, hBA, hB⟩ := hA
  have hAl := lt_of_heap hAc
  have hBp := hB s.pos hs.pos
  have hBl := lt_of_cell hBp
  have hA0 := cell_of_heap hAc 0
  have hA1 := cell_of_heap hAc 1
  have hA2 := cell_of_heap hAc 2
  have hA3 := cell_of_heap hAc 3
  have hAf := frozen_of_heap hAc
  have hmf : ∀ (fn : Fn) (first cap : Array Value) (w : World), (Instr.makeFunc fn first cap).run Try.prog w = .ok (.func fn first cap) w := fun _ _ _ _ => rfl
  simp at hA0 hA1 hA2 hA3
  have u0 := hs.used0
  have u1 := hs.used1
  have hk1 : Keeps Nil w (w.alloc (.cells #[.slice a bs.length cap] 33)) := (Keeps.refl _ _).alloc _
  have hb1 : BoolsAt (w.alloc (.cells #[.slice a bs.length cap] 33)) a bs := hb.keeps ((Keeps.refl Nil _).alloc _) (fun _ _ _ h => h)
  have hR1 : (w.alloc (.cells #[.slice a bs.length cap] 33)).cell? ⟨w.heap.size, 0, none⟩ = some (.slice a bs.length cap) := by
    rw [World.cell?_alloc_at _ _ _ _ rfl]; rfl
  have hlenlt : (s.pos : Int) < (s.bursts.length : Int) := by have := hs.pos; omega
  have hr := hs.rng s.pos hs.pos
  have hl8 := hs.len8
  have hq := fun k (hk : k < s.bursts.length) => Arb.q_lt hs hk
  have hl0 := hs.len0
  have hAt : ArbAt w A B s := ⟨bcap, hAc, hBA, hB⟩
  have hAt' := Lib.hid hAt
  clear hAt
  have hb1' := Lib.hid hb1
  have hk1' := Lib.hid hk1
  have hq' := Lib.hid hq
  have ht' := Lib.hid ht
  clear hAc hB hb hs hb1 hk1 hq
  have hcase : 0 < s.used ∧ s.used < gi s.bursts s.pos ∧ gb bs s.pos = false ∨ 0 < s.used ∧ ¬ s.used < gi s.bursts s.pos ∨ ¬ 0 < s.used := by
    unfold Arb.takes at ht
    by_cases c1 : 0 < s.used
    · by_cases c2 : s.used < gi s.bursts s.pos
      · left; refine ⟨c1, c2, ?_⟩
        cases h : gb bs s.pos
        · rfl
        · exact absurd ⟨c1, c2, h⟩ ht
      · right; left; exact ⟨c1, c2⟩
    · right; right; exact c1
  clear ht
  have hcase2 : (decide (0 < s.used) = true ∧ decide (s.used < gi s.bursts s.pos) = true ∧ Hid (gb bs s.pos = false)) ∨ (decide (0 < s.used) = true ∧ decide (s.used < gi s.bursts s.pos) = false) ∨ decide (0 < s.used) = false := by
    rcases hcase with ⟨c1, c2, c3⟩ | ⟨c1, c2⟩ | c1
    · left; exact ⟨by simpa using c1, by simpa using c2, Lib.hid c3⟩
    · right; left; exact ⟨by simpa using c1, by simpa using c2⟩
    · right; right; simpa using c1
  clear hcase
  rcases hcase2 with ⟨c1, c2, c3⟩ | ⟨c1, c2⟩ | c1
  all_goals
    go_enter Try.func10, Try.ntmps10
    go_wp2_with fail
    first | (go_quiet ((go_at_call 16; exact Calls.quiet_of_same (is_val w.heap.size a cap bs s.pos false _ (by assumption : Hid (gb bs s.pos = false)).out hR1 hb1'.out)))) | go_quiet (fail)
    go_wp2_with fail
    go_loop [59] (fun i => ∃ k : Nat, k ≤ s.bursts.length ∧ i = .int .i64 k ∧ Hid (s.seek bs 0 s.bursts.length = s.seek bs k (s.bursts.length - k))) (fun i => s.bursts.length - (intOf i).toNat)
    case atStart => exact ⟨0, Nat.zero_le _, rfl, rfl⟩
    case round =>
      obtain ⟨k, hk, rfl, hrel⟩ := hrel
      by_cases hlt : k < s.bursts.length
      · have hqk := hq'.out k hlt
        have hqd : s.q k = if s.fresh then k else (s.pos + 1 + k) % s.bursts.length := rfl
        have hqd' := Lib.hid hqd
        clear hqd
        cases hf : s.fresh
        · have hqi : ((s.pos : Int) + 1 + k) % (s.bursts.length : Int) = (s.q k : Int) := by
            rw [hqd'.out, hf]; simp
          cases hg : gb bs (s.q k)
          · have hrel2 := Lib.hid (hrel.out.trans (seek_no hlt hg))
            clear hrel
            have hg' := Lib.hid hg
            clear hg
            go_wp2_with (go_at_call 16; refine (is_val w.heap.size a cap bs (s.q k) false _ hg'.out (by exact hR1) (by exact hb1'.out)).mono ?_; rintro e w' ⟨rfl, rfl⟩)
            go_round
            case rel => exact ⟨k + 1, by omega, by go_num, hrel2⟩
            case measure => simp [intOf]; omega
          · have hres := Lib.hid (next_of_some ht'.out (hrel.out.trans (seek_yes hlt hg)))
            clear hrel
            have hg' := Lib.hid hg
            clear hg
            go_wp2_with (go_at_call 16; refine (is_val w.heap.size a cap bs (s.q k) true _ hg'.out (by exact hR1) (by exact hb1'.out)).mono ?_; rintro e w' ⟨rfl, rfl⟩)
            go_ret
            rw [hres.out]
            exact ⟨rfl, (((hAt'.out.keeps (hk1'.out.drewN _) (fun h => h) (fun h => h)).setPos _).setUsed _).setFresh _, ((((hk1'.out.mono (fun _ h => h.elim)).drewN _).setCell (S := (· = A)) (p := ⟨A, 1, none⟩) (.inl rfl) _).setCell (p := ⟨A, 2, none⟩) (.inl rfl) _).setCell (p := ⟨A, 3, none⟩) (.inl rfl) _⟩
        · have hqi : s.q k = k := by
            rw [hqd'.out, hf]; simp
          cases hg : gb bs k
          · have hrel2 := Lib.hid (hrel.out.trans (seek_no hlt (by rw [hqi]; exact hg)))
            clear hrel hqi
            have hg' := Lib.hid hg
            clear hg
            go_wp2_with (go_at_call 16; refine (is_val w.heap.size a cap bs k false _ hg'.out (by exact hR1) (by exact hb1'.out)).mono ?_; rintro e w' ⟨rfl, rfl⟩)
            go_round
            case rel => exact ⟨k + 1, by omega, by go_num, hrel2⟩
            case measure => simp [intOf]; omega
          · have hres := Lib.hid (next_of_some ht'.out (hrel.out.trans (seek_yes hlt (by rw [hqi]; exact hg))))
            rw [hqi] at hres
            clear hrel hqi
            have hg' := Lib.hid hg
            clear hg
            go_wp2_with (go_at_call 16; refine (is_val w.heap.size a cap bs k true _ hg'.out (by exact hR1) (by exact hb1'.out)).mono ?_; rintro e w' ⟨rfl, rfl⟩)
            go_ret
            rw [hres.out]
            exact ⟨rfl, (((hAt'.out.keeps (hk1'.out.drewN _) (fun h => h) (fun h => h)).setPos _).setUsed _).setFresh _, ((((hk1'.out.mono (fun _ h => h.elim)).drewN _).setCell (S := (· = A)) (p := ⟨A, 1, none⟩) (.inl rfl) _).setCell (p := ⟨A, 2, none⟩) (.inl rfl) _).setCell (p := ⟨A, 3, none⟩) (.inl rfl) _⟩
      · have hres := Lib.hid (next_of_none ht'.out (hrel.out.trans (seek_end (by omega))))
        clear hrel
        go_wp2_with fail
        go_ret
        rw [hres.out]
        exact ⟨rfl, (hAt'.out.keeps (hk1'.out.drewN _) (fun h => h) (fun h => h)).setUsed _, ((hk1'.out.mono (fun _ h => h.elim)).drewN _).setCell (S := (· = A)) (p := ⟨A, 2, none⟩) (.inl rfl) _⟩
end Go.Proofs.Ytikofabijdkbjaa
