/- the reference's Next -/
import Derived.Test.YtikofabijdkbjaaC
import Derived.Deep.DeepCutAuto
namespace Go.Proofs.Ytikofabijdkbjaa
open Go.RowKit

def Arb.rpos (s : Arb) : Int := if s.fresh then -1 else s.pos

/-- The reference's arbiter, read as the program's. -/
def RAt (w : World) (A B : Nat) (s : Arb) : Prop :=
  ∃ cap, w.heap[A]? = some (.cells #[.slice (some ⟨B, 0, none⟩) s.bursts.length cap, .int .i64 s.rpos, .int .i64 s.used] 45 (0, 0)) ∧ B ≠ A ∧
    ∀ j, j < s.bursts.length → w.cell? ⟨B, j, none⟩ = some (.int .i64 (gi s.bursts j))

theorem RAt.of_ref {w : World} {A B : Nat} {xs : List Int} (h : RefAt w A B ⟨xs, -1, 0⟩) : RAt w A B ⟨xs, 0, 0, true⟩ := h

theorem RAt.keeps {S : Nat → Prop} {w w' : World} {A B : Nat} {s : Arb} (h : RAt w A B s) (hk : Keeps S w w') (hA : ¬ S A) (hB : ¬ S B) : RAt w' A B s := by
  obtain ⟨cap, h1, h2, h3⟩ := h
  exact ⟨cap, hk.heap h1 hA, h2, fun j hj => hk.cell (h3 j hj) hB⟩
theorem RAt.setUsed {w : World} {A B : Nat} {s : Arb} (h : RAt w A B s) (u : Int) : RAt (w.setCell ⟨A, 2, none⟩ (.int .i64 u)) A B { s with used := u } := by
  obtain ⟨cap, h1, h2, h3⟩ := h
  exact ⟨cap, by have := heap_setCell_same h1 2 (.int .i64 u); simp at this; exact this, h2, fun j hj => ((Keeps.refl (· = A) w).setCell (.inl rfl) _).cell (h3 j hj) h2⟩
theorem RAt.setPos {w : World} {A B : Nat} {s : Arb} (h : RAt w A B s) (u : Nat) : RAt (w.setCell ⟨A, 1, none⟩ (.int .i64 u)) A B { s with pos := u, fresh := false } := by
  obtain ⟨cap, h1, h2, h3⟩ := h
  exact ⟨cap, by have := heap_setCell_same h1 1 (.int .i64 u); simpa [Arb.rpos] using this, h2, fun j hj => ((Keeps.refl (· = A) w).setCell (.inl rfl) _).cell (h3 j hj) h2⟩

/-- the queue ahead of the k-th try -/
def Arb.qb (s : Arb) (k : Nat) : Int := if k = 0 then s.rpos else s.q (k - 1)
theorem qb_zero (s : Arb) : s.qb 0 = s.rpos := rfl
theorem qb_succ (s : Arb) (k : Nat) : s.qb (k + 1) = s.q k := rfl
theorem qb_lo {s : Arb} (k : Nat) : -1 ≤ s.qb k := by unfold Arb.qb Arb.rpos; split; split <;> omega; omega
theorem qb_hi {s : Arb} (hs : s.Ok) {k : Nat} (hk : k < s.bursts.length) : s.qb k < s.bursts.length := by
  unfold Arb.qb
  split
  · unfold Arb.rpos; have := hs.pos; split <;> omega
  · have := Arb.q_lt hs (k := k - 1) (by omega); omega
theorem q_step {s : Arb} (hs : s.Ok) {k : Nat} (hk : k < s.bursts.length) : (s.q k : Int) = if s.qb k + 1 = s.bursts.length then 0 else s.qb k + 1 := by
  have hp := hs.pos
  unfold Arb.qb Arb.q Arb.rpos
  cases hf : s.fresh
  · simp
    by_cases h0 : k = 0
    · subst h0
      simp
      by_cases h1 : s.pos + 1 = s.bursts.length
      · rw [if_pos (by omega), show ((s.pos : Int) + 1) = (s.bursts.length : Int) by omega]; simp
      · rw [if_neg (by omega), Int.emod_eq_of_lt (by omega) (by omega)]
    · rw [if_neg h0]
      by_cases h2 : s.pos + 1 + k < s.bursts.length
      · rw [Int.emod_eq_of_lt (by omega) (by omega), Int.emod_eq_of_lt (by omega) (by omega), if_neg (by omega)]; omega
      · have e1 : ((s.pos : Int) + 1 + k) % s.bursts.length = s.pos + 1 + k - s.bursts.length := by
          rw [← Int.sub_emod_right, Int.emod_eq_of_lt (by omega) (by omega)]
        rw [e1]
        by_cases h3 : s.pos + 1 + k = s.bursts.length
        · have e2 : ((s.pos : Int) + 1 + ((k - 1 : Nat) : Int)) % s.bursts.length = s.pos + 1 + ((k - 1 : Nat) : Int) := Int.emod_eq_of_lt (by omega) (by omega)
          rw [e2, if_pos (by omega)]; omega
        · have e2 : ((s.pos : Int) + 1 + ((k - 1 : Nat) : Int)) % s.bursts.length = s.pos + 1 + ((k - 1 : Nat) : Int) - s.bursts.length := by
            rw [← Int.sub_emod_right, Int.emod_eq_of_lt (by omega) (by omega)]
          rw [e2, if_neg (by omega)]; omega
  · simp
    by_cases h0 : k = 0
    · subst h0; simp
    · rw [if_neg h0, if_neg (by omega)]; omega
theorem q_wrap {s : Arb} (hs : s.Ok) {k : Nat} (hk : k < s.bursts.length) (h : s.qb k + 1 = s.bursts.length) : s.q k = 0 := by
  have := q_step hs hk; rw [if_pos h] at this; omega
theorem q_next {s : Arb} (hs : s.Ok) {k : Nat} (hk : k < s.bursts.length) (h : ¬ s.qb k + 1 = s.bursts.length) : s.qb k + 1 = (s.q k : Int) := by
  have := q_step hs hk; rw [if_neg h] at this; omega

set_option maxHeartbeats 2000000 in
set_option maxRecDepth 100000 in
theorem rnext_any (A B : Nat) (s : Arb) (a : Option Addr) (cap : Nat) (bs : List Bool) (w : World) (hs : s.Ok) (hfr : s.fresh = true → s.used = 0) (hA : RAt w A B s) (hb : BoolsAt w a bs) (hbl : bs.length ≤ maxLen) :
    Calls Try.prog 11 #[.pointer (some ⟨A, 0, none⟩), .slice a bs.length cap] w fun e w' => e = .returned (.int .i64 (s.next bs).1) ∧ RAt w' A B (s.next bs).2 ∧ Keeps (· = A) w w' := by
  have hA' := Lib.hid hA
  obtain ⟨bcap, hAc, hBA, hB⟩ := hA
  have hA0 := cell_of_heap hAc 0
  have hA1 := cell_of_heap hAc 1
  have hA2 := cell_of_heap hAc 2
  have hAf := frozen_of_heap hAc
  simp at hA0 hA1 hA2
  have u0 := hs.used0
  have u1 := hs.used1
  have hpB := hB s.pos hs.pos
  have hr := hs.rng s.pos hs.pos
  have hp8 := hs.pos
  have hl8 := hs.len8
  unfold maxLen at hbl
  have hlenlt : (s.pos : Int) < (s.bursts.length : Int) := by have := hs.pos; omega
  have hs' := Lib.hid hs
  have hb' := Lib.hid hb
  clear hAc hB hs hb
  go_enter Try.func11, Try.ntmps11
  go_upto_region 2 with (fail)
  by_cases ht : s.takes bs
  · have hres := Lib.hid (next_of_takes ht)
    obtain ⟨c1, c2, c3⟩ := ht
    have c0 : s.fresh = false := by
      cases h : s.fresh
      · rfl
      · have := hfr h; omega
    have hrp : s.rpos = (s.pos : Int) := by simp [Arb.rpos, c0]
    have hpl : s.pos < bs.length := by
      apply Classical.byContradiction; intro h; rw [gb_out (by omega)] at c3; cases c3
    obtain ⟨b, off, rfl, hc⟩ := hb'.out s.pos hpl
    rw [c3] at hc
    have c1' : decide (0 < s.used) = true := decide_eq_true c1
    have c2' : decide (s.used < gi s.bursts s.pos) = true := decide_eq_true c2
    have c4' : decide ((s.pos : Int) < bs.length) = true := decide_eq_true (by omega)
    have c5' : (s.pos : Int) < bs.length := by omega
    clear c0 c3
    go_quiet (fail)
    go_wp2
    go_ret
    rw [hres.out]
    exact ⟨rfl, (hA'.out.keeps ((Keeps.refl Nil w).drewN _) (fun h => h) (fun h => h)).setUsed _, ((((Keeps.refl (· = A) w)).drewN _).setCell (p := ⟨A, 2, none⟩) (.inl rfl) _)⟩
  · go_cut [59] (fun s59 wx => s59 = .bool false ∧ ∃ nq, wx = w.drewN nq)
    case first =>
      by_cases c0 : s.fresh = true
      · have hrp : s.rpos = -1 := by simp [Arb.rpos, c0]
        have hu := hfr c0
        clear hfr c0
        go_quiet (fail)
        go_wp2_with fail
        go_meet
        exact ⟨rfl, _, rfl⟩
      · have hrp : s.rpos = (s.pos : Int) := by simp [Arb.rpos, c0]
        by_cases c1 : 0 < s.used
        · have c1' : decide (0 < s.used) = true := decide_eq_true c1
          by_cases c2 : s.used < gi s.bursts s.pos
          · have c2' : decide (s.used < gi s.bursts s.pos) = true := decide_eq_true c2
            by_cases c4 : s.pos < bs.length
            · obtain ⟨b, off, rfl, hc⟩ := hb'.out s.pos c4
              have c3 : gb bs s.pos = false := by
                cases h : gb bs s.pos
                · rfl
                · exact absurd ⟨c1, c2, h⟩ ht
              rw [c3] at hc
              have c4' : decide ((s.pos : Int) < bs.length) = true := decide_eq_true (by omega)
              have c5' : (s.pos : Int) < bs.length := by omega
              clear c0 c3 ht hfr
              go_quiet (fail)
              go_wp2_with fail
              go_meet
              exact ⟨rfl, _, rfl⟩
            · have c4' : decide ((s.pos : Int) < bs.length) = false := decide_eq_false (by omega)
              clear c0 ht hfr
              go_quiet (fail)
              go_wp2_with fail
              go_meet
              exact ⟨rfl, _, rfl⟩
          · have c2' : decide (s.used < gi s.bursts s.pos) = false := decide_eq_false c2
            clear c0 ht hfr
            go_quiet (fail)
            go_wp2_with fail
            go_meet
            exact ⟨rfl, _, rfl⟩
        · have c1' : decide (0 < s.used) = false := decide_eq_false c1
          clear c0 ht hfr
          go_quiet (fail)
          go_wp2_with fail
          go_meet
          exact ⟨rfl, _, rfl⟩
    case rest =>
      obtain ⟨rfl, nq, rfl⟩ := hcut
      have ht' := Lib.hid ht
      clear ht
      go_wp2_with fail
      go_loop [6, 7] (fun q i => ∃ k : Nat, k ≤ s.bursts.length ∧ i = .int .i64 k ∧ q = .int .i64 (s.qb k) ∧ Hid (s.seek bs 0 s.bursts.length = s.seek bs k (s.bursts.length - k))) (fun _ i => s.bursts.length - (intOf i).toNat)
      case atStart => exact ⟨0, Nat.zero_le _, rfl, rfl, rfl⟩
      case round =>
        obtain ⟨k, hk, rfl, rfl, hrel⟩ := hrel
        by_cases hlt : k < s.bursts.length
        · have hql := qb_lo (s := s) k
          have hqh := qb_hi hs'.out hlt
          have hqk := Arb.q_lt hs'.out hlt
          by_cases hw : s.qb k + 1 = s.bursts.length
          · have hw' : (s.qb k + 1 == (s.bursts.length : Int)) = true := by simpa using hw
            have hq0 := q_wrap hs'.out hlt hw
            have hq0' := Lib.hid hq0
            clear hw hq0
            by_cases hl : 0 < bs.length
            · obtain ⟨b, off, rfl, hc⟩ := hb'.out 0 hl
              have hl' : decide ((0 : Int) < bs.length) = true := by simp; omega
              rw [Nat.add_zero] at hc
              cases hg : gb bs 0
              · have hrel2 := Lib.hid (hrel.out.trans (seek_no hlt (by rw [hq0'.out]; exact hg)))
                clear hrel
                go_wp2
                go_round
                case rel => exact ⟨k + 1, by omega, by go_num, by rw [qb_succ, hq0'.out]; rfl, hrel2⟩
                case measure => simp [intOf]; omega
              · have hres := Lib.hid (next_of_some ht'.out (hrel.out.trans (seek_yes hlt (by rw [hq0'.out]; exact hg))))
                clear hrel
                go_wp2
                go_ret
                rw [hres.out]
                exact ⟨by rw [hq0'.out]; rfl, by rw [hq0'.out]; exact ((hA'.out.keeps ((Keeps.refl Nil w).drewN _) (fun h => h) (fun h => h)).setPos 0).setUsed 1, ((((Keeps.refl (· = A) w)).drewN _).setCell (p := ⟨A, 1, none⟩) (.inl rfl) _).setCell (p := ⟨A, 2, none⟩) (.inl rfl) _⟩
            · have hl' : decide ((0 : Int) < bs.length) = false := decide_eq_false (by omega)
              have hrel2 := Lib.hid (hrel.out.trans (seek_no hlt (by rw [hq0'.out]; exact gb_out (by omega))))
              clear hrel
              go_wp2
              go_round
              case rel => exact ⟨k + 1, by omega, by go_num, by rw [qb_succ, hq0'.out]; rfl, hrel2⟩
              case measure => simp [intOf]; omega
          · have hw' : (s.qb k + 1 == (s.bursts.length : Int)) = false := by simpa using hw
            have hq0 := q_next hs'.out hlt hw
            have hw2 : ((s.q k : Int) == (s.bursts.length : Int)) = false := by rw [← hq0]; exact hw'
            clear hw
            by_cases hl : s.q k < bs.length
            · obtain ⟨b, off, rfl, hc⟩ := hb'.out (s.q k) hl
              have hl' : decide ((s.q k : Int) < bs.length) = true := by simp; omega
              cases hg : gb bs (s.q k)
              · have hrel2 := Lib.hid (hrel.out.trans (seek_no hlt hg))
                clear hrel
                go_wp2
                go_round
                case rel => exact ⟨k + 1, by omega, by go_num, by rw [qb_succ], hrel2⟩
                case measure => simp [intOf]; omega
              · have hres := Lib.hid (next_of_some ht'.out (hrel.out.trans (seek_yes hlt hg)))
                clear hrel
                go_wp2
                go_ret
                rw [hres.out]
                exact ⟨rfl, ((hA'.out.keeps ((Keeps.refl Nil w).drewN _) (fun h => h) (fun h => h)).setPos _).setUsed 1, ((((Keeps.refl (· = A) w)).drewN _).setCell (p := ⟨A, 1, none⟩) (.inl rfl) _).setCell (p := ⟨A, 2, none⟩) (.inl rfl) _⟩
            · have hl' : decide ((s.q k : Int) < bs.length) = false := by simp; omega
              have hrel2 := Lib.hid (hrel.out.trans (seek_no hlt (gb_out (l := bs) (j := s.q k) (Nat.le_of_not_lt hl))))
              clear hrel
              go_wp2
              go_round
              case rel => exact ⟨k + 1, by omega, by go_num, by rw [qb_succ], hrel2⟩
              case measure => simp [intOf]; omega
        · have hres := Lib.hid (next_of_none ht'.out (hrel.out.trans (seek_end (by omega))))
          clear hrel
          go_wp2
          go_ret
          rw [hres.out]
          exact ⟨rfl, (hA'.out.keeps ((Keeps.refl Nil w).drewN _) (fun h => h) (fun h => h)).setUsed _, ((((Keeps.refl (· = A) w)).drewN _).setCell (p := ⟨A, 2, none⟩) (.inl rfl) _)⟩
end Go.Proofs.Ytikofabijdkbjaa
