/- the reference's New -/
import Derived.Test.YtikofabijdkbjaaB
import Derived.Deep.RegionLaw
namespace Go.Proofs.Ytikofabijdkbjaa
open Go.RowKit
attribute [local go_sem ↓] Go.wp_at_zero Go.wp_at_succ

structure Ref where
  bursts : List Int
  pos : Int
  used : Int

def RefAt (w : World) (A B : Nat) (s : Ref) : Prop :=
  ∃ cap, w.heap[A]? = some (.cells #[.slice (some ⟨B, 0, none⟩) s.bursts.length cap, .int .i64 s.pos, .int .i64 s.used] 45 (0, 0)) ∧ B ≠ A ∧
    ∀ j, j < s.bursts.length → w.cell? ⟨B, j, none⟩ = some (.int .i64 (gi s.bursts j))

def RefHead (w : World) (A : Nat) (a : Option Addr) (cap : Nat) (xs : List Int) : Prop :=
  w.heap[A]? = some (.cells #[.slice a xs.length cap, .int .i64 (-1), .int .i64 0] 45 (0, 0)) ∧ IntRow w a cap xs ∧ blk a ≠ some A

theorem gi_take {xs : List Int} {k : Nat} (h : k < xs.length) : xs.take (k + 1) = xs.take k ++ [gi xs k] := by
  rw [List.take_succ_eq_append_getElem h, gi_eq h]

theorem refStep {w wr w2 : World} {xs : List Int} {k cap' cap2 : Nat} {a' a2 : Option Addr} (hlt : k < xs.length)
    (hh : wr.heap[w.heap.size]? = some (.cells #[.slice a' (xs.take k).length cap', .int .i64 (-1), .int .i64 0] 45 (0, 0))) (hkeep : Keeps Nil w wr) (hr : RowAt wr 3 1 a' k cap' ((xs.take k).map (.int .i64)))
    (hge : ∀ g, blk a' = some g → w.heap.size ≤ g) (hne : ¬ blk a' = some w.heap.size) (hall : ∀ j, j < k → 1 ≤ gi xs j ∧ gi xs j ≤ 64) (hb1 : ¬ gi xs k < 1) (hb2 : ¬ 64 < gi xs k)
    (hr3 : RowAt w2 3 1 a2 (k + 1) cap2 ((xs.take k).map (.int .i64) ++ [.int .i64 (gi xs k)])) (hk3 : Keeps (fun j => blk a' = some j) (wr.alloc (.cells #[.int .i64 (gi xs k)] 3)).drew w2)
    (hb3 : blk a2 = blk a' ∨ blk a2 = some (wr.alloc (.cells #[.int .i64 (gi xs k)] 3)).drew.heap.size ∧ (wr.alloc (.cells #[.int .i64 (gi xs k)] 3)).drew.heap.size < w2.heap.size) :
    RefHead (w2.setCell ⟨w.heap.size, 0, none⟩ (.slice a2 (k + 1) cap2)) w.heap.size a2 cap2 (xs.take (k + 1)) ∧ Keeps Nil w (w2.setCell ⟨w.heap.size, 0, none⟩ (.slice a2 (k + 1) cap2)) ∧ (∀ j, j < k + 1 → 1 ≤ gi xs j ∧ gi xs j ≤ 64) ∧ (∀ g, blk a2 = some g → w.heap.size ≤ g) := by
  have hsz := lt_of_heap hh
  have hge2 : ∀ g, blk a2 = some g → w.heap.size < g := by
    intro g hg
    rcases hb3 with hb3 | ⟨hb3, _⟩
    · rw [hb3] at hg
      have := hge g hg
      have hn : g ≠ w.heap.size := fun e => hne (by rw [hg, e])
      omega
    · rw [hb3] at hg; simp at hg; omega
  have h1 := (((Keeps.refl Nil wr).alloc (.cells #[.int .i64 (gi xs k)] 3)).drew).heap hh (fun h => h)
  have h2 := hk3.heap h1 hne
  have hlen : (xs.take (k + 1)).length = k + 1 := by simp; omega
  refine ⟨⟨?_, ?_, fun h => ?_⟩, ?_, ?_, fun g hg => Nat.le_of_lt (hge2 g hg)⟩
  · rw [hlen]; have := heap_setCell_same h2 0 (.slice a2 (k + 1) cap2); simpa using this
  · unfold IntRow
    rw [hlen, gi_take hlt, List.map_append]
    refine hr3.keeps ((Keeps.refl (· = w.heap.size) w2).setCell (p := ⟨w.heap.size, 0, none⟩) (.inl rfl) _) (fun g hg h => ?_)
    have := hge2 g hg
    omega
  · have := hge2 _ h
    omega
  · have hk4 : Keeps Nil w w2 := (hkeep.trans' (((Keeps.refl Nil wr).alloc (.cells #[.int .i64 (gi xs k)] 3)).drew) (fun _ h => h.elim)).trans' hk3 (fun j hj => .inr (hge j hj))
    exact hk4.setCell (p := ⟨w.heap.size, 0, none⟩) (.inr (Nat.le_refl _)) _
  · intro j hj
    by_cases e : j < k
    · exact hall j e
    · obtain rfl : j = k := by omega
      omega

set_option maxHeartbeats 1000000 in
theorem refNew_any (a : Option Addr) (cap : Nat) (xs : List Int) (w : World) (hx : IntsAt w a xs) (h1 : 1 ≤ xs.length) (h2 : xs.length ≤ 8) :
    Calls Try.prog 9 #[.slice a xs.length cap] w fun e w' => (allOk xs → ∃ A B, e = .returned (.tuple #[.pointer (some ⟨A, 0, none⟩), .bool true]) ∧ RefAt w' A B ⟨xs, -1, 0⟩ ∧ w.heap.size ≤ A ∧ w.heap.size ≤ B) ∧ (¬ allOk xs → e = .returned (.tuple #[.pointer none, .bool false])) ∧ Keeps Nil w w' := by
  obtain ⟨i0, hi, hz0, hz1, hz2⟩ := info_parts Try.info3
  have h1' : decide ((xs.length : Int) < 1) = false := by simp; omega
  have h2' : decide ((8 : Int) < (xs.length : Int)) = false := by simp; omega
  have hx' := Lib.hid hx
  clear hx
  go_enter Try.func9, Try.ntmps9
  go_wp2_with fail
  go_loopw [5] (fun i wr => ∃ (k : Nat) (a' : Option Addr) (cap' : Nat), k ≤ xs.length ∧ i = .int .i64 k ∧ RefHead wr w.heap.size a' cap' (xs.take k) ∧ Keeps Nil w wr ∧ (∀ j, j < k → 1 ≤ gi xs j ∧ gi xs j ≤ 64) ∧ (∀ g, blk a' = some g → w.heap.size ≤ g)) (fun i _ => xs.length - (intOf i).toNat)
  case atStart => 
    exact ⟨0, none, 0, Nat.zero_le _, rfl, ⟨heap_alloc_new _ _, RowAt.nil _ _ _, by simp [blk]⟩, (Keeps.refl _ _).alloc _, fun j hj => by omega, fun g hg => by cases hg⟩
  case round =>
    obtain ⟨k, a', cap', hk, rfl, ⟨hh, hr, hne⟩, hkeep, hall, hge⟩ := hrel
    have hA0 := cell_of_heap hh 0
    simp at hA0
    rw [Nat.min_eq_left hk] at hA0
    have hAf := frozen_of_heap hh 0
    have hlenk : (xs.take k).length = k := by simp; omega
    have hsz := lt_of_heap hh
    by_cases hlt : k < xs.length
    · obtain ⟨b, off, rfl, hc0⟩ := hx'.out k hlt
      have hbl := lt_of_cell hc0
      have hc := hkeep.cell hc0 (fun h => h)
      clear hc0
      have hbA : ¬ blk a' = some b := fun h => by have := hge b h; omega
      have hbA' := Lib.hid hbA
      clear hbA
      have hr2 : RowAt wr 3 1 a' k cap' ((xs.take k).map (.int .i64)) := by
        have := hr; unfold IntRow at this; rw [hlenk] at this; exact this
      have hr2' := Lib.hid hr2
      clear hr2
      have hh' := Lib.hid hh
      have hr' := Lib.hid hr
      have hkeep' := Lib.hid hkeep
      have hall' := Lib.hid hall
      have hge' := Lib.hid hge
      have hne' := Lib.hid hne
      have hlenk' := Lib.hid hlenk
      clear hh hr hkeep hall hge hne hlenk
      by_cases hb1 : gi xs k < 1
      · go_wp2_with fail
        go_ret2
        refine ⟨fun hok => ?_, fun _ => rfl, hkeep'.out⟩
        have := hok k hlt
        omega
      · by_cases hb2 : 64 < gi xs k
        · go_wp2_with fail
          go_ret2
          refine ⟨fun hok => ?_, fun _ => rfl, hkeep'.out⟩
          have := hok k hlt
          omega
        · go_wp2_with fail
          go_region_law ((refine step_app _ (by rfl) _ _ 22 (by rfl) 3 i0 (.int .i64 0) 1 8 Try.underlying22 hi hz0 hz1 hz2 rfl (by decide) _ k cap' _ (by rfl) _ 1 1 [.int .i64 (gi xs k)] (by rfl) (hr2'.out.keeps (((Keeps.refl Nil _).alloc _).drew) (fun _ _ h => h)) (src_one (cell_new1 _ _ _)) (fun h => by cases h) (by simp [Value.oneCell']) (by simp [maxLen]; omega) (by omega) ?_; intro a2 cap2 w2 hr3 hk3 hb3; have t2 := hk3.cell ((((Keeps.refl Nil wr).alloc _).drew).cell hA0 (fun h => h)) hne'.out; have t3 := hk3.frozen ((((Keeps.refl Nil wr).alloc _).drew).frozen hAf hsz (fun h => h)) (by simp; omega) hne'.out))
          all_goals
            have hfin := refStep hlt hh'.out hkeep'.out hr2'.out hge'.out hne'.out hall'.out (by omega) (by omega) hr3 hk3 hb3
            have hfin' := Lib.hid hfin
            clear hfin t2 t3 hr3 hk3 hb3 hA0 hAf hc hr2' hh' hkeep' hall' hge' hne' hlenk' hbA'
            go_wp2
            go_roundw
            case rel => exact ⟨k + 1, a2, cap2, by omega, by go_num, hfin'.out⟩
            case measure => simp [intOf]; omega
    · have hke : k = xs.length := by omega
      have hh' := Lib.hid hh
      have hr' := Lib.hid hr
      have hkeep' := Lib.hid hkeep
      have hall' := Lib.hid hall
      have hge' := Lib.hid hge
      have hne' := Lib.hid hne
      have hke' := Lib.hid hke
      clear hh hr hkeep hall hge hne hlenk hke
      go_wp2
      go_ret2
      refine ⟨fun _ => ?_, fun hno => absurd ?_ hno, hkeep'.out⟩
      · obtain rfl := hke'.out
        have e : xs.take xs.length = xs := List.take_length
        have hr2 := hr'.out
        have hh2 := hh'.out
        rw [e] at hr2 hh2
        rcases hr2.form with ⟨_, h5, _⟩ | ⟨g, cur, h5, _, h7, _⟩
        · omega
        · subst h5
          have hg := hge'.out g rfl
          refine ⟨w.heap.size, g, rfl, ⟨cap', hh2, fun h => hne'.out (by simp [blk, h]), fun j hj => ?_⟩, Nat.le_refl _, hg⟩
          obtain ⟨b, off, h8, h9⟩ := hr2.ints j hj
          cases h8
          rw [Nat.zero_add] at h9
          exact h9
      · intro j hj
        exact hall'.out j (by have := hke'.out; omega)

end Go.Proofs.Ytikofabijdkbjaa
