/- stripe: leaves; adding a row of numbers to another one -/
import Derived.Test.YtdgcbjkopmlegaaRows
import Derived.Test.YtdgcbjkopmlegaaTree
import Derived.Test.YtdgcbjkopmlegaaRecs
import Derived.Outline
namespace Go.Proofs.Ytdgcbjkopmlegaa
open Go.RowKit

attribute [local go_sem ↓] Go.wp_at_zero Go.wp_at_succ

/-- xor, place by place, as far as the second one goes -/
def addTo (k : IntKind) : List Int → List Int → List Int
  | [], _ => []
  | y :: ys, [] => y :: ys
  | y :: ys, x :: xs => bits .xor k y x :: addTo k ys xs
theorem addTo_nil (k : IntKind) : ∀ ys : List Int, addTo k ys [] = ys
  | [] => rfl
  | _ :: _ => rfl
theorem addTo_len (k : IntKind) : ∀ ys xs : List Int, (addTo k ys xs).length = ys.length
  | [], _ => rfl
  | y :: ys, [] => rfl
  | y :: ys, x :: xs => by simp [addTo, addTo_len k ys xs]
theorem addTo_step (k : IntKind) : ∀ (ys xs : List Int) (q : Nat), q < xs.length → xs.length ≤ ys.length → gi (addTo k ys (xs.take q)) q = gi ys q ∧ (addTo k ys (xs.take q)).set q (bits .xor k (gi ys q) (gi xs q)) = addTo k ys (xs.take (q + 1))
  | ys, [], q, h, _ => by simp at h
  | [], x :: xs, q, _, h => by simp at h
  | y :: ys, x :: xs, 0, _, _ => by simp [addTo, gi, addTo_nil]
  | y :: ys, x :: xs, q + 1, h, hl => by
    obtain ⟨h1, h2⟩ := addTo_step k ys xs q (by simpa using h) (by simpa using hl)
    simp only [List.take_succ_cons, addTo, List.set_cons_succ]
    have e1 : gi (y :: ys) (q + 1) = gi ys q := rfl
    have e2 : gi (x :: xs) (q + 1) = gi xs q := rfl
    have e3 : gi (bits .xor k y x :: addTo k ys (xs.take q)) (q + 1) = gi (addTo k ys (xs.take q)) q := rfl
    rw [e1, e2, e3, h2]
    exact ⟨h1, rfl⟩

def NumRow (k : IntKind) (w : World) (E : TypeId) (a : Option Addr) (cap : Nat) (ys : List Int) : Prop := RowAt w E 1 a ys.length cap (ys.map (Value.int k))
theorem NumRow.cell {k : IntKind} {w : World} {E : TypeId} {a : Option Addr} {cap : Nat} {ys : List Int} (h : NumRow k w E a cap ys) {q : Nat} (hq : q < ys.length) : ∃ g, a = some ⟨g, 0, none⟩ ∧ g < w.heap.size ∧ w.cell? ⟨g, q, none⟩ = some (.int k (gi ys q)) ∧ w.frozen? ⟨g, q, none⟩ = false := by
  rcases h.form with ⟨_, h2, _⟩ | ⟨g, cur, ha, hn, hh, hs, ht⟩
  · omega
  · subst ha
    have := h.src.2.2 ⟨g, 0, none⟩ rfl q (.int k (gi ys q)) (by simp [gi_eq hq, hq])
    rw [Addr.add_lit, Nat.zero_add] at this
    exact ⟨g, rfl, lt_of_heap hh, this, frozen_of_heap hh q⟩
theorem NumRow.set {k : IntKind} {w : World} {E : TypeId} {g cap : Nat} {ys : List Int} (h : NumRow k w E (some ⟨g, 0, none⟩) cap ys) (q : Nat) (y : Int) : NumRow k (w.setCell ⟨g, q, none⟩ (.int k y)) E (some ⟨g, 0, none⟩) cap (ys.set q y) := by
  have := RowAt.setCell (o := q) h (.int k y)
  unfold NumRow
  rw [List.length_set, List.map_set]
  exact this

set_option maxHeartbeats 2000000 in
set_option maxRecDepth 100000 in
theorem add33 {w : World} {g cap rb rc : Nat} {ra : Option Addr} {ys xs : List Int} (hto : NumRow .u32 w 41 (some ⟨g, 0, none⟩) cap ys) (hrow : w.cell? ⟨rb, 0, none⟩ = some (.slice ra xs.length rc)) (hx : NumsAt .u32 w ra xs)
    (hle : xs.length ≤ ys.length) (hl : ys.length ≤ 9223372036854775807) (hne : ∀ b, blk ra = some b → 0 < xs.length → b ≠ g) (hrg : rb ≠ g) :
    Calls Try.prog 33 #[.slice (some ⟨g, 0, none⟩) ys.length cap, .slice (some ⟨rb, 0, none⟩) 1 1] w fun e w' => e = .returned (.tuple #[]) ∧ NumRow .u32 w' 41 (some ⟨g, 0, none⟩) cap (addTo .u32 ys xs) ∧ Keeps (· = g) w w' := by
  have hx' := Lib.hid hx
  have hto' := Lib.hid hto
  have hne' := Lib.hid hne
  clear hx hto hne
  go_enter Try.func33, Try.ntmps33
  go_wp2_with fail
  refine wp_loop_rounds 2 ?_
  rw [rounds_succ]
  go_wp2_with fail
  go_loopw [6, 7, 16] (fun _ _ c wx => ∃ q : Nat, q ≤ xs.length ∧ c = .int .i64 q ∧ NumRow .u32 wx 41 (some ⟨g, 0, none⟩) cap (addTo .u32 ys (xs.take q)) ∧ Keeps (· = g) w wx) (fun _ _ c _ => xs.length - (intOf c).toNat)
  case atStart => exact ⟨0, Nat.zero_le _, rfl, by rw [List.take_zero, addTo_nil]; exact hto'.out, Keeps.refl _ _⟩
  case round =>
    obtain ⟨q, hq, rfl, hR, hK⟩ := hrel
    have hR' := Lib.hid hR
    have hK' := Lib.hid hK
    by_cases hlt : q < xs.length
    · obtain ⟨b, off, rfl, hc⟩ := (hx'.out.keeps hK (fun b hb e => hne'.out b hb (by omega) e)) q hlt
      obtain ⟨g', hg', hgl, hc2, hf2⟩ := hR.cell (q := q) (by rw [addTo_len]; omega)
      cases hg'
      obtain ⟨e1, e2⟩ := addTo_step .u32 ys xs q hlt hle
      rw [e1] at hc2
      have e2' := Lib.hid e2
      clear hR hK e1 e2
      go_wp2_with fail
      go_roundw
      case rel => exact ⟨q + 1, by omega, by go_num, by rw [← e2'.out]; exact NumRow.set hR'.out q _, hK'.out.setCell (.inl rfl) _⟩
      case measure => simp [intOf]; omega
    · obtain rfl : q = xs.length := by omega
      have e0 := Lib.hid (show xs.take xs.length = xs from List.take_of_length_le (Nat.le_refl _))
      have hrow2 := hK.cell hrow hrg
      clear hR hK
      go_wp2_with fail
      rw [rounds_succ]
      go_wp2_with fail
      go_end0
      rw [e0.out] at hR'
      exact ⟨rfl, hR'.out, hK'.out⟩
set_option maxHeartbeats 2000000 in
set_option maxRecDepth 100000 in
theorem add34 {w : World} {g cap rb rc : Nat} {ra : Option Addr} {ys xs : List Int} (hto : NumRow .i64 w 3 (some ⟨g, 0, none⟩) cap ys) (hrow : w.cell? ⟨rb, 0, none⟩ = some (.slice ra xs.length rc)) (hx : NumsAt .i64 w ra xs)
    (hle : xs.length ≤ ys.length) (hl : ys.length ≤ 9223372036854775807) (hne : ∀ b, blk ra = some b → 0 < xs.length → b ≠ g) (hrg : rb ≠ g) :
    Calls Try.prog 34 #[.slice (some ⟨g, 0, none⟩) ys.length cap, .slice (some ⟨rb, 0, none⟩) 1 1] w fun e w' => e = .returned (.tuple #[]) ∧ NumRow .i64 w' 3 (some ⟨g, 0, none⟩) cap (addTo .i64 ys xs) ∧ Keeps (· = g) w w' := by
  have hx' := Lib.hid hx
  have hto' := Lib.hid hto
  have hne' := Lib.hid hne
  clear hx hto hne
  go_enter Try.func34, Try.ntmps34
  go_wp2_with fail
  refine wp_loop_rounds 2 ?_
  rw [rounds_succ]
  go_wp2_with fail
  go_loopw [6, 7, 16] (fun _ _ c wx => ∃ q : Nat, q ≤ xs.length ∧ c = .int .i64 q ∧ NumRow .i64 wx 3 (some ⟨g, 0, none⟩) cap (addTo .i64 ys (xs.take q)) ∧ Keeps (· = g) w wx) (fun _ _ c _ => xs.length - (intOf c).toNat)
  case atStart => exact ⟨0, Nat.zero_le _, rfl, by rw [List.take_zero, addTo_nil]; exact hto'.out, Keeps.refl _ _⟩
  case round =>
    obtain ⟨q, hq, rfl, hR, hK⟩ := hrel
    have hR' := Lib.hid hR
    have hK' := Lib.hid hK
    by_cases hlt : q < xs.length
    · obtain ⟨b, off, rfl, hc⟩ := (hx'.out.keeps hK (fun b hb e => hne'.out b hb (by omega) e)) q hlt
      obtain ⟨g', hg', hgl, hc2, hf2⟩ := hR.cell (q := q) (by rw [addTo_len]; omega)
      cases hg'
      obtain ⟨e1, e2⟩ := addTo_step .i64 ys xs q hlt hle
      rw [e1] at hc2
      have e2' := Lib.hid e2
      clear hR hK e1 e2
      go_wp2_with fail
      go_roundw
      case rel => exact ⟨q + 1, by omega, by go_num, by rw [← e2'.out]; exact NumRow.set hR'.out q _, hK'.out.setCell (.inl rfl) _⟩
      case measure => simp [intOf]; omega
    · obtain rfl : q = xs.length := by omega
      have e0 := Lib.hid (show xs.take xs.length = xs from List.take_of_length_le (Nat.le_refl _))
      have hrow2 := hK.cell hrow hrg
      clear hR hK
      go_wp2_with fail
      rw [rounds_succ]
      go_wp2_with fail
      go_end0
      rw [e0.out] at hR'
      exact ⟨rfl, hR'.out, hK'.out⟩
set_option maxHeartbeats 2000000 in
set_option maxRecDepth 100000 in
theorem add35 {w : World} {g cap rb rc : Nat} {ra : Option Addr} {ys xs : List Int} (hto : NumRow .u64 w 42 (some ⟨g, 0, none⟩) cap ys) (hrow : w.cell? ⟨rb, 0, none⟩ = some (.slice ra xs.length rc)) (hx : NumsAt .u64 w ra xs)
    (hle : xs.length ≤ ys.length) (hl : ys.length ≤ 9223372036854775807) (hne : ∀ b, blk ra = some b → 0 < xs.length → b ≠ g) (hrg : rb ≠ g) :
    Calls Try.prog 35 #[.slice (some ⟨g, 0, none⟩) ys.length cap, .slice (some ⟨rb, 0, none⟩) 1 1] w fun e w' => e = .returned (.tuple #[]) ∧ NumRow .u64 w' 42 (some ⟨g, 0, none⟩) cap (addTo .u64 ys xs) ∧ Keeps (· = g) w w' := by
  have hx' := Lib.hid hx
  have hto' := Lib.hid hto
  have hne' := Lib.hid hne
  clear hx hto hne
  go_enter Try.func35, Try.ntmps35
  go_wp2_with fail
  refine wp_loop_rounds 2 ?_
  rw [rounds_succ]
  go_wp2_with fail
  go_loopw [6, 7, 16] (fun _ _ c wx => ∃ q : Nat, q ≤ xs.length ∧ c = .int .i64 q ∧ NumRow .u64 wx 42 (some ⟨g, 0, none⟩) cap (addTo .u64 ys (xs.take q)) ∧ Keeps (· = g) w wx) (fun _ _ c _ => xs.length - (intOf c).toNat)
  case atStart => exact ⟨0, Nat.zero_le _, rfl, by rw [List.take_zero, addTo_nil]; exact hto'.out, Keeps.refl _ _⟩
  case round =>
    obtain ⟨q, hq, rfl, hR, hK⟩ := hrel
    have hR' := Lib.hid hR
    have hK' := Lib.hid hK
    by_cases hlt : q < xs.length
    · obtain ⟨b, off, rfl, hc⟩ := (hx'.out.keeps hK (fun b hb e => hne'.out b hb (by omega) e)) q hlt
      obtain ⟨g', hg', hgl, hc2, hf2⟩ := hR.cell (q := q) (by rw [addTo_len]; omega)
      cases hg'
      obtain ⟨e1, e2⟩ := addTo_step .u64 ys xs q hlt hle
      rw [e1] at hc2
      have e2' := Lib.hid e2
      clear hR hK e1 e2
      go_wp2_with fail
      go_roundw
      case rel => exact ⟨q + 1, by omega, by go_num, by rw [← e2'.out]; exact NumRow.set hR'.out q _, hK'.out.setCell (.inl rfl) _⟩
      case measure => simp [intOf]; omega
    · obtain rfl : q = xs.length := by omega
      have e0 := Lib.hid (show xs.take xs.length = xs from List.take_of_length_le (Nat.le_refl _))
      have hrow2 := hK.cell hrow hrg
      clear hR hK
      go_wp2_with fail
      rw [rounds_succ]
      go_wp2_with fail
      go_end0
      rw [e0.out] at hR'
      exact ⟨rfl, hR'.out, hK'.out⟩
set_option maxHeartbeats 2000000 in
set_option maxRecDepth 100000 in
theorem add36 {w : World} {g cap rb rc : Nat} {ra : Option Addr} {ys xs : List Int} (hto : NumRow .u8 w 5 (some ⟨g, 0, none⟩) cap ys) (hrow : w.cell? ⟨rb, 0, none⟩ = some (.slice ra xs.length rc)) (hx : NumsAt .u8 w ra xs)
    (hle : xs.length ≤ ys.length) (hl : ys.length ≤ 9223372036854775807) (hne : ∀ b, blk ra = some b → 0 < xs.length → b ≠ g) (hrg : rb ≠ g) :
    Calls Try.prog 36 #[.slice (some ⟨g, 0, none⟩) ys.length cap, .slice (some ⟨rb, 0, none⟩) 1 1] w fun e w' => e = .returned (.tuple #[]) ∧ NumRow .u8 w' 5 (some ⟨g, 0, none⟩) cap (addTo .u8 ys xs) ∧ Keeps (· = g) w w' := by
  have hx' := Lib.hid hx
  have hto' := Lib.hid hto
  have hne' := Lib.hid hne
  clear hx hto hne
  go_enter Try.func36, Try.ntmps36
  go_wp2_with fail
  refine wp_loop_rounds 2 ?_
  rw [rounds_succ]
  go_wp2_with fail
  go_loopw [6, 7, 16] (fun _ _ c wx => ∃ q : Nat, q ≤ xs.length ∧ c = .int .i64 q ∧ NumRow .u8 wx 5 (some ⟨g, 0, none⟩) cap (addTo .u8 ys (xs.take q)) ∧ Keeps (· = g) w wx) (fun _ _ c _ => xs.length - (intOf c).toNat)
  case atStart => exact ⟨0, Nat.zero_le _, rfl, by rw [List.take_zero, addTo_nil]; exact hto'.out, Keeps.refl _ _⟩
  case round =>
    obtain ⟨q, hq, rfl, hR, hK⟩ := hrel
    have hR' := Lib.hid hR
    have hK' := Lib.hid hK
    by_cases hlt : q < xs.length
    · obtain ⟨b, off, rfl, hc⟩ := (hx'.out.keeps hK (fun b hb e => hne'.out b hb (by omega) e)) q hlt
      obtain ⟨g', hg', hgl, hc2, hf2⟩ := hR.cell (q := q) (by rw [addTo_len]; omega)
      cases hg'
      obtain ⟨e1, e2⟩ := addTo_step .u8 ys xs q hlt hle
      rw [e1] at hc2
      have e2' := Lib.hid e2
      clear hR hK e1 e2
      go_wp2_with fail
      go_roundw
      case rel => exact ⟨q + 1, by omega, by go_num, by rw [← e2'.out]; exact NumRow.set hR'.out q _, hK'.out.setCell (.inl rfl) _⟩
      case measure => simp [intOf]; omega
    · obtain rfl : q = xs.length := by omega
      have e0 := Lib.hid (show xs.take xs.length = xs from List.take_of_length_le (Nat.le_refl _))
      have hrow2 := hK.cell hrow hrg
      clear hR hK
      go_wp2_with fail
      rw [rounds_succ]
      go_wp2_with fail
      go_end0
      rw [e0.out] at hR'
      exact ⟨rfl, hR'.out, hK'.out⟩
end Go.Proofs.Ytdgcbjkopmlegaa
