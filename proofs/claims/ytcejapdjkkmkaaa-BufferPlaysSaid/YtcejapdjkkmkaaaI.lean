/- abs, awake; bytes as a string -/
import Derived.Test.YtcejapdjkkmkaaaH
import Derived.Laws.BytesArg
import Derived.Lib.SlBytesConst
namespace Go.Proofs.Ytcejapdjkkmkaaa
open Go.RowKit

attribute [local go_sem ↓] Go.wp_at_zero Go.wp_at_succ

def absI (n : Int) : Int := if n < 0 then -(n + 1) else n
theorem absI_nonneg (n : Int) : 0 ≤ absI n := by unfold absI; split <;> omega
theorem absI_le {n : Int} (h0 : -9223372036854775808 ≤ n) (h1 : n ≤ 9223372036854775807) : absI n ≤ 9223372036854775807 := by unfold absI; split <;> omega
theorem abs_any (n : Int) (w : World) (h0 : -9223372036854775808 ≤ n) (h1 : n ≤ 9223372036854775807) : Calls Try.prog 12 #[.int .i64 n] w fun e w' => e = .returned (.int .i64 (absI n)) ∧ w = w' := by
  by_cases h : n < 0
  · have e1 := Lib.hid (show absI n = -(n + 1) from if_pos h)
    go_enter Try.func12, Try.ntmps12
    go_wp2_with fail
    go_ret
    exact ⟨ret_int e1.out.symm, rfl⟩
  · have e1 := Lib.hid (show absI n = n from if_neg h)
    go_enter Try.func12, Try.ntmps12
    go_wp2_with fail
    go_ret
    exact ⟨ret_int e1.out.symm, rfl⟩
theorem abs_val (n a : Int) (w : World) (h0 : -9223372036854775808 ≤ n) (h1 : n ≤ 9223372036854775807) (ha : absI n = a) : Calls Try.prog 12 #[.int .i64 n] w fun e w' => e = .returned (.int .i64 a) ∧ w = w' := by
  subst ha
  exact abs_any n w h0 h1

/-- bytes as a string -/
theorem run_str {w : World} {a : Option Addr} {cap : Nat} {d : List Int} (h : DataAt w a d) : (convert 30 9 (.slice a d.length cap)).run Try.prog w = .ok (.string (strOfNums d)) w := by
  cases a with
  | none =>
    have : d = [] := by
      cases d with
      | nil => rfl
      | cons x r => obtain ⟨b, off, e, _⟩ := h 0 (by simp); cases e
    subst this
    exact run_convert_bytes_nil w 30 5 Try.underlying30 Try.underlying5 _ _ 9 Try.underlying9
  | some ad =>
    cases hd : d with
    | nil =>
      rw [run_convert_bytes_string w 30 9 5 _ _ cap Try.underlying30 Try.underlying5 Try.underlying9, List.length_nil, run_bytesToString w ad 0 cap [] (by
        have := run_loadCells_list (P := Try.prog) w ad [] (fun j v hj => by simp at hj)
        simpa using this)]
      rfl
    | cons x r =>
      obtain ⟨b, off, e, _⟩ := h 0 (by rw [hd]; simp)
      cases e
      rw [← hd]
      exact run_convert_bytes_arg w 30 5 Try.underlying30 Try.underlying5 b off d.length cap d rfl (fun i hi => by
        obtain ⟨b', off', e, hc⟩ := h i hi
        cases e
        rw [hc]; rfl) 9 Try.underlying9

theorem data_one (w : World) (v : Int) (fr : Nat × Nat) : DataAt (w.alloc (.cells #[.int .u8 v] 5 fr)) (some ⟨w.heap.size, 0, none⟩) [v] := by
  intro j hj
  have hj0 : j = 0 := by simp at hj; exact hj
  subst hj0
  exact ⟨_, 0, rfl, cell_of_heap (heap_alloc_new w (.cells #[.int .u8 v] 5 fr)) 0⟩

variable {w w' : World} {bb : Nat} {most : Int} {l : List It} {O : Nat → Prop}
theorem put_lit (h : BufX w bb most l O) (k v : Int) {fr : Nat × Nat} {c : Int} {l' : List It} (hm : (l.length : Int) ≤ most) (hl : l.length ≤ 1000000) (hc : icode most k l = c) (hl' : iput most ⟨k, 1, [v]⟩ l = l') :
    Calls Try.prog 9 #[.pointer (some ⟨bb, 0, none⟩), .int .i64 k, .slice (some ⟨w.heap.size, 0, none⟩) 1 1] (w.alloc (.cells #[.int .u8 v] 5 fr)) (BOut (w.alloc (.cells #[.int .u8 v] 5 fr)) bb most O (.int .i64 c) l') := by
  subst hc
  subst hl'
  exact putX (h.nil ((Keeps.refl Nil w).alloc _)) k (d := [v]) (data_one w v fr) (by simp) hm hl

/-- the buffer inside a law: its blocks are newer than the law's start -/
structure BufIn (w0 w : World) (bb : Nat) (most : Int) (l : List It) (O : Nat → Prop) : Prop where
  x : BufX w bb most l O
  k : Keeps Nil w0 w
  o : ∀ k, O k → w0.heap.size ≤ k
theorem BufIn.out {w0 w1 : World} {v : Value} {l' : List It} {e : Ending} (h : BufIn w0 w bb most l O) (hk : Keeps Nil w w1) (hB : BOut w1 bb most O v l' e w') : e = .returned v ∧ ∃ O', BufIn w0 w' bb most l' O' ∧ Keeps O w1 w' ∧ Grow O O' w1 := by
  obtain ⟨rfl, O', h1, h2, h3⟩ := hB
  refine ⟨rfl, O', ⟨h1, (h.k.trans hk).trans' h2 (fun j hj => .inr (h.o j hj)), fun k hk' => ?_⟩, h2, h3⟩
  rcases h3 k hk' with h4 | h4
  · exact h.o k h4
  · exact Nat.le_trans (h.k.trans hk).size h4

set_option maxHeartbeats 2000000 in
set_option maxRecDepth 100000 in
theorem awake_any (w : World) : Calls Try.prog 7 #[] w fun e w' => e = .returned (.bool true) ∧ Keeps Nil w w' := by
  have hcc := fun (w : World) (C : Array Value) (n c : Nat) => Lib.run_convert_bytes_const (P := Try.prog) w 30 5 C n c Try.underlying30 Try.underlying5
  go_enter Try.func7, Try.ntmps7
  go_wp2_with fail
  refine (newX 2 w (by decide)).mono ?_
  rintro e w1 ⟨bb, O, rfl, hL, hK, hO⟩
  have h1 := Lib.hid (show BufIn w w1 bb 2 [] O from ⟨hL, hK, hO⟩)
  clear hL hK hO
  go_wp2_with fail
  refine (put_lit h1.out.x 5 97 (c := 0) (l' := [⟨5, 1, [97]⟩]) (by decide) (by decide) (by decide) (by decide)).mono ?_
  intro e w2 hB
  obtain ⟨rfl, O2, hB, -⟩ := h1.out.out ((Keeps.refl Nil _).alloc _) hB
  have h2 := Lib.hid hB
  clear hB h1
  go_wp2_with fail
  refine (put_lit h2.out.x 6 98 (c := 0) (l' := [⟨5, 1, [97]⟩, ⟨6, 1, [98]⟩]) (by decide) (by decide) (by decide) (by decide)).mono ?_
  intro e w3 hB
  obtain ⟨rfl, O3, hB, -⟩ := h2.out.out ((Keeps.refl Nil _).alloc _) hB
  have h3 := Lib.hid hB
  clear hB h2
  go_wp2_with fail
  refine (put_lit h3.out.x 7 99 (c := 90) (l' := [⟨5, 1, [97]⟩, ⟨6, 1, [98]⟩]) (by decide) (by decide) (by decide) (by decide)).mono ?_
  intro e w4 hB
  obtain ⟨rfl, O4, hB, -⟩ := h3.out.out ((Keeps.refl Nil _).alloc _) hB
  have h4 := Lib.hid hB
  clear hB h3
  go_wp2_with fail
  refine (put_lit h4.out.x 5 100 (c := 0) (l' := [⟨5, 1, [100]⟩, ⟨6, 1, [98]⟩]) (by decide) (by decide) (by decide) (by decide)).mono ?_
  intro e w5 hB
  obtain ⟨rfl, O5, hB, -⟩ := h4.out.out ((Keeps.refl Nil _).alloc _) hB
  have h5 := Lib.hid hB
  clear hB h4
  go_wp2_with fail
  refine (takeX h5.out.x (by decide)).mono ?_
  rintro e w6 ⟨a, cap, hB, hD⟩
  obtain ⟨rfl, O6, hB, -⟩ := h5.out.out (Keeps.refl Nil _) hB
  have h6 := Lib.hid hB
  have hcv : (convert 30 9 (.slice a 1 cap)).run Try.prog w6 = .ok (.string ⟨#[100]⟩) w6 := run_str (d := [100]) hD
  clear hB h5 hD
  go_wp2_with fail
  refine (lenX h6.out.x).mono ?_
  rintro e w7 ⟨rfl, rfl⟩
  go_wp2_with fail
  go_ret
  exact ⟨rfl, h6.out.k⟩
end Go.Proofs.Ytcejapdjkkmkaaa
