/- Put, Trim, Len, New -/
import Derived.Test.YtcejapdjkkmkaaaD
namespace Go.Proofs.Ytcejapdjkkmkaaa
open Go.RowKit

attribute [local go_sem ↓] Go.wp_at_zero Go.wp_at_succ

variable {w : World} {bb mb kcap : Nat} {ka : Option Addr} {most : Int} {L : List Rec}

def bfull (most : Int) (k : Int) (L : List Rec) : Bool := (bget k L).isNone && decide (most ≤ (L.length : Int))
def bput (most : Int) (r : Rec) (L : List Rec) : List Rec := if bfull most r.key L = true then L else bset r L
def bcode (most : Int) (k : Int) (L : List Rec) : Int := if bfull most k L = true then 90 else 0

theorem PutOut.start {w1 w' : World} {L' : List Rec} {v : Value} {e : Ending} (hk : Keeps Nil w w1) (h : PutOut w1 bb mb ka most L' v e w') : PutOut w bb mb ka most L' v e w' := by
  obtain ⟨rfl, ka', kcap', h1, h2, h3⟩ := h
  exact ⟨rfl, ka', kcap', h1, (hk.mono (fun _ h => h.elim)).trans h2, h3.elim .inl (fun ⟨g, a, b⟩ => .inr ⟨g, a, Nat.le_trans hk.size b⟩)⟩

theorem note_any (h : BufS w bb mb ka kcap most L) (r : Rec) (hr : DataB w r) (hrl : r.data.length ≤ 140737488351232) (hm : (L.length : Int) ≤ most) (hl : L.length ≤ 1000000) :
    Calls Try.prog 20 #[.pointer (some ⟨bb, 0, none⟩), .int .i64 r.key, .agg #[.int .i64 r.st, .slice r.a r.data.length r.cap]] w (PutOut w bb mb ka most (bput most r L) (.int .i64 (bcode most r.key L))) := by
  cases hx : bget r.key L with
  | some x =>
    have e : bfull most r.key L = false := by simp [bfull, hx]
    unfold bput bcode
    rw [e]
    exact note_in h r hr hrl hx
  | none =>
    by_cases hf : (L.length : Int) = most
    · have e : bfull most r.key L = true := by simp [bfull, hx]; omega
      unfold bput bcode
      rw [e]
      refine (note_full h r hx hf).mono ?_
      rintro e w' ⟨rfl, hk⟩
      exact ⟨rfl, ka, kcap, h.nil hk, hk.mono (fun _ h => h.elim), .inl rfl⟩
    · have e : bfull most r.key L = false := by simp [bfull, hx]; omega
      unfold bput bcode
      rw [e]
      exact note_new h r hr hrl hx (by omega) hl

set_option maxHeartbeats 1000000 in
theorem put_any (h : BufS w bb mb ka kcap most L) (k : Int) {a : Option Addr} {cap : Nat} {d : List Int} (hd : DataAt w a d) (hdl : d.length ≤ 140737488351232) (hm : (L.length : Int) ≤ most) (hl : L.length ≤ 1000000) :
    Calls Try.prog 9 #[.pointer (some ⟨bb, 0, none⟩), .int .i64 k, .slice a d.length cap] w fun e w' => ∃ g, PutOut w bb mb ka most (bput most ⟨k, 1, d, some ⟨g, 0, none⟩, d.length⟩ L) (.int .i64 (bcode most k L)) e w' ∧ w.heap.size ≤ g := by
  have h' := Lib.hid h
  have hC := Lib.hid (own_any (cap := cap) hd hdl)
  clear h hd
  go_enter Try.func9, Try.ntmps9
  go_wp2_with fail
  refine (hC.out).mono ?_
  rintro e1 w1 ⟨g, rfl, hg1, hge, hk1⟩
  have hN := Lib.hid (note_any (h'.out.nil hk1) ⟨k, 1, d, some ⟨g, 0, none⟩, d.length⟩ (.inr ⟨g, rfl, hg1⟩) hdl hm hl)
  have hk1' := Lib.hid hk1
  clear hC hg1 hk1
  go_wp2_with fail
  refine (hN.out).mono ?_
  rintro e2 w2 ⟨rfl, hP⟩
  have hP' := Lib.hid hP
  clear hP
  go_wp2_with fail
  go_ret
  exact ⟨g, PutOut.start hk1'.out ⟨rfl, hP'.out⟩, hge⟩

set_option maxHeartbeats 1000000 in
theorem trim_any (h : BufS w bb mb ka kcap most L) (k : Int) (hm : (L.length : Int) ≤ most) (hl : L.length ≤ 1000000) :
    Calls Try.prog 13 #[.pointer (some ⟨bb, 0, none⟩), .int .i64 k] w (PutOut w bb mb ka most (bput most ⟨k, 2, [], none, 0⟩ L) (.int .i64 (bcode most k L))) := by
  have hN := Lib.hid (note_any h ⟨k, 2, [], none, 0⟩ (.inl ⟨rfl, rfl⟩) (by simp) hm hl)
  clear h
  go_enter Try.func13, Try.ntmps13
  go_wp2_with fail
  refine (hN.out).mono ?_
  rintro e2 w2 ⟨rfl, hP⟩
  have hP' := Lib.hid hP
  clear hP
  go_wp2_with fail
  go_ret
  exact ⟨rfl, hP'.out⟩

set_option maxHeartbeats 1000000 in
theorem len_any (h : BufS w bb mb ka kcap most L) : Calls Try.prog 11 #[.pointer (some ⟨bb, 0, none⟩)] w fun e w' => e = .returned (.int .i64 L.length) ∧ w' = w := by
  have c1 := cell_of_heap h.blk 1
  simp at c1
  clear h
  go_enter Try.func11, Try.ntmps11
  go_wp2_with fail
  go_ret
  exact ⟨rfl, rfl⟩

set_option maxHeartbeats 1000000 in
theorem new_any (most : Int) (w : World) (hm : 1 ≤ most) : Calls Try.prog 8 #[.int .i64 most] w fun e w' => ∃ bb mb, e = .returned (.tuple #[.pointer (some ⟨bb, 0, none⟩), .int .i64 0]) ∧ BufS w' bb mb none 0 most [] ∧ Keeps Nil w w' ∧ w.heap.size ≤ bb ∧ w.heap.size ≤ mb := by
  have e1 : decide (most < 1) = false := decide_eq_false (by omega)
  have hmk := @run_makeMap Try.prog
  go_enter Try.func8, Try.ntmps8
  go_wp2_with fail
  go_ret2
  refine ⟨w.heap.size + 1, w.heap.size, rfl, ⟨?_, ?_, ?_, ?_, ?_, ?_⟩, ((Keeps.refl Nil w).alloc _).alloc _, by omega, Nat.le_refl _⟩
  · have s1 : (w.alloc (.map #[] 0)).heap.size = w.heap.size + 1 := by simp
    rw [← s1]
    exact heap_alloc_new _ _
  · exact RowAt.nil _ _ _
  · exact (MapAt.made w).keeps ((Keeps.refl Nil _).alloc _) (fun h => h)
  · intro r hr; cases hr
  · intro r hr; cases hr
  · exact List.nodup_nil
set_option maxHeartbeats 1000000 in
theorem new_none (most : Int) (w : World) (hm : most < 1) : Calls Try.prog 8 #[.int .i64 most] w fun e w' => e = .returned (.tuple #[.pointer none, .int .i64 1]) ∧ w' = w := by
  have e1 : decide (most < 1) = true := decide_eq_true hm
  go_enter Try.func8, Try.ntmps8
  go_wp2_with fail
  go_ret2
  exact ⟨rfl, rfl⟩
end Go.Proofs.Ytcejapdjkkmkaaa
