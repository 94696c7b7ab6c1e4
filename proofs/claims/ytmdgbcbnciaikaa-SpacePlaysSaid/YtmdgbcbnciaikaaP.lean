/- made, of a record that may be -/
import Derived.Test.YtmdgbcbnciaikaaN2
namespace Go.Proofs.Ytmdgbcbnciaikaa
open Go.RowKit

attribute [local go_sem ↓] Go.wp_at_zero Go.wp_at_succ

set_option maxHeartbeats 8000000 in
theorem made_good {w : World} {tb i : Nat} {E : TypeId} {keys k s b c : Int} {T : List Spc} (h : TabAt w tb E keys T) (hok : TabOk keys T) (hk0 : 1 ≤ keys) (hkm : keys ≤ 4096) (hi : i < 16) (hb0 : 1 ≤ b) (hb1 : b ≤ keys) (hc0 : 0 ≤ c) (hc1 : c ≤ keys - b) (hg : T[i]? = some sp0) :
    Calls Try.prog 34 #[.pointer (some ⟨tb, 0, none⟩), .agg #[.int .i64 k, .int .u64 s, .int .u64 ((i : Int) + 1), .int .u64 b, .int .u64 c]] w fun e w' => e = .returned (.tuple #[spV ⟨(i : Int) + 1, c, b⟩, .bool (!(spAll T).any (over ⟨(i : Int) + 1, c, b⟩))]) ∧ Keeps Nil w w' := by
  have hW : Keeps Nil w ((w.alloc (.cells #[.int .i64 k, .int .u64 s, .int .u64 ((i : Int) + 1), .int .u64 b, .int .u64 c] 48)).alloc zblk) := ((Keeps.refl Nil w).alloc _).alloc _
  have hT := h.keeps hW (fun h => h)
  simp only [zblk] at hT hW
  have ck := hT.key
  have hT' := Lib.hid hT
  have hW' := Lib.hid hW
  obtain ⟨t0, t1, t2⟩ := hT.cells hg
  simp only [sp0] at t0 t1 t2
  have x1 : IntKind.u64.wrap keys = keys := by simp [IntKind.wrap, IntKind.signed, IntKind.bits]; omega
  have x2 : IntKind.u64.wrap (keys - b) = keys - b := by simp [IntKind.wrap, IntKind.signed, IntKind.bits]; omega
  have x3 : IntKind.u64.wrap ((i : Int) + 1 - 1) = (i : Int) := by rw [show (i : Int) + 1 - 1 = i by omega]; simp [IntKind.wrap, IntKind.signed, IntKind.bits]; omega
  have x4 : IntKind.i64.wrap ((i : Int) + 1) = (i : Int) + 1 := by simp [IntKind.wrap, IntKind.signed, IntKind.bits]; omega
  have x5 : IntKind.i64.wrap b = b := by simp [IntKind.wrap, IntKind.signed, IntKind.bits]; omega
  have x6 : IntKind.i64.wrap c = c := by simp [IntKind.wrap, IntKind.signed, IntKind.bits]; omega
  have g1 : (0 : Int) ≤ (i : Int) := by omega
  have g2 : (i : Int) < 16 := by omega
  have d1 : decide ((i : Int) + 1 < 1) = false := decide_eq_false (by omega)
  have d2 : decide (16 < (i : Int) + 1) = false := decide_eq_false (by omega)
  have d3 : decide (b < 1) = false := decide_eq_false (by omega)
  have d4 : decide (keys < b) = false := decide_eq_false (by omega)
  have d5 : decide (keys - b < c) = false := decide_eq_false (by omega)
  have hS : Hid (Small ⟨(i : Int) + 1, c, b⟩) := ⟨by show 0 ≤ c; omega, by show c ≤ 4096; omega, by show 0 ≤ b; omega, by show b ≤ 4096; omega⟩
  have hL := Lib.hid (show ∀ x ∈ spAll T, Small x from fun x hx => by
    obtain ⟨q1, q2, q3⟩ := hok.all hx
    exact ⟨q2, by omega, by omega, by omega⟩)
  have hlen := Lib.hid (show (spAll T).length ≤ 1000000 by have := spAll_len T; have := hok.len; omega)
  have hTl := Lib.hid hok.len
  have hmf : ∀ (fn : Fn) (first cap : Array Value) (w : World), (Instr.makeFunc fn first cap).run Try.prog w = .ok (.func fn first cap) w := fun _ _ _ _ => rfl
  clear h hok hk0 hkm hi hb0 hb1 hc0 hc1 hg hT hW
  go_enter Try.func34, Try.ntmps34
  go_wp2_with fail
  go_quiet (fail)
  clear t0 t1 t2 ck d1 d2 d3 d4 d5 x1 x2 x3
  go_wp2_with fail
  obtain ⟨W0, hW0⟩ : ∃ W0, ((((w.alloc (.cells #[.int .i64 k, .int .u64 s, .int .u64 ((i : Int) + 1), .int .u64 b, .int .u64 c] 48)).alloc (.cells #[.int .i64 0, .int .i64 0, .int .i64 0] 30)).drewN nq).alloc (.cells #[.int .i64 ((i : Int) + 1), .int .i64 c, .int .i64 b] 30)) = W0 := ⟨_, rfl⟩
  rw [hW0]
  have hk0 : Keeps Nil w W0 := by rw [← hW0]; exact ((hW'.out.drewN nq).alloc _)
  have hTT : TabAt W0 tb E keys T := by rw [← hW0]; exact hT'.out.keeps (((Keeps.refl Nil _).drewN nq).alloc _) (fun h => h)
  have hn0 : W0.heap[w.heap.size + 1 + 1]? = some (.cells #[.int .i64 ((i : Int) + 1), .int .i64 c, .int .i64 b] 30) := by
    rw [← hW0]
    have e : (((w.alloc (.cells #[.int .i64 k, .int .u64 s, .int .u64 ((i : Int) + 1), .int .u64 b, .int .u64 c] 48)).alloc (.cells #[.int .i64 0, .int .i64 0, .int .i64 0] 30)).drewN nq).heap.size = w.heap.size + 1 + 1 := by simp
    rw [← e]
    exact heap_alloc_new _ _
  have hr0 : W0.heap[w.heap.size + 1]? = some (.cells #[.int .i64 0, .int .i64 0, .int .i64 0] 30) := by
    rw [← hW0]
    have e : (w.alloc (.cells #[.int .i64 k, .int .u64 s, .int .u64 ((i : Int) + 1), .int .u64 b, .int .u64 c] 48)).heap.size = w.heap.size + 1 := by simp
    rw [← e]
    exact (((Keeps.refl Nil _).drewN nq).alloc _).heap (heap_alloc_new (w.alloc _) _) (fun h => h)
  have hk0' := Lib.hid hk0
  have hAll := Lib.hid (show ∀ W, Keeps Nil W0 W → Calls Try.prog 12 #[.pointer (some ⟨tb, 0, none⟩)] W (RowOut W (spAll T)) from fun W hW => all_any (hTT.keeps hW (fun h => h)) hTl.out)
  have hLC := Lib.hid (show ∀ W, Keeps Nil W0 W → W.cell? ⟨w.heap.size + 1 + 1, 0, none⟩ = some (.int .i64 ((i : Int) + 1)) ∧ W.cell? ⟨w.heap.size + 1 + 1, 1, none⟩ = some (.int .i64 c) ∧ W.cell? ⟨w.heap.size + 1 + 1, 2, none⟩ = some (.int .i64 b) from fun W hW => by
    have h := hW.heap hn0 (fun h => h)
    exact ⟨cell_of_heap h 0, cell_of_heap h 1, cell_of_heap h 2⟩)
  have hLC2 := Lib.hid (show ∀ W, Keeps (· = w.heap.size + 1) W0 W → W.cell? ⟨w.heap.size + 1 + 1, 0, none⟩ = some (.int .i64 ((i : Int) + 1)) ∧ W.cell? ⟨w.heap.size + 1 + 1, 1, none⟩ = some (.int .i64 c) ∧ W.cell? ⟨w.heap.size + 1 + 1, 2, none⟩ = some (.int .i64 b) from fun W hW => by
    have h := hW.heap hn0 (by omega)
    exact ⟨cell_of_heap h 0, cell_of_heap h 1, cell_of_heap h 2⟩)
  have hRC := Lib.hid (show ∀ W, Keeps Nil W0 W → W.cell? ⟨w.heap.size + 1, 0, none⟩ = some (.int .i64 0) ∧ W.cell? ⟨w.heap.size + 1, 1, none⟩ = some (.int .i64 0) ∧ W.cell? ⟨w.heap.size + 1, 2, none⟩ = some (.int .i64 0) ∧ W.frozen? ⟨w.heap.size + 1, 0, none⟩ = false ∧ W.frozen? ⟨w.heap.size + 1, 1, none⟩ = false ∧ W.frozen? ⟨w.heap.size + 1, 2, none⟩ = false from fun W hW => by
    have h := hW.heap hr0 (fun h => h)
    exact ⟨cell_of_heap h 0, cell_of_heap h 1, cell_of_heap h 2, frozen_of_heap h 0, frozen_of_heap h 1, frozen_of_heap h 2⟩)
  clear hW0 hk0 hTT hn0 hr0 hT' hW' hTl x4 x5 x6 g1 g2
  go_region_held3 (fun W => W.cell? ⟨w.heap.size + 1 + 1, 0, none⟩ = some (.int .i64 ((i : Int) + 1)) ∧ W.cell? ⟨w.heap.size + 1 + 1, 1, none⟩ = some (.int .i64 c) ∧ W.cell? ⟨w.heap.size + 1 + 1, 2, none⟩ = some (.int .i64 b)) (first | (refine hLC.out _ ?_; first | exact (Keeps.refl Nil _).drew | exact hk6'.out | exact hk5'.out) | exact hLC2.out _ (Keeps.set3 (S := (· = w.heap.size + 1)) (hk6'.out.mono (fun _ h => h.elim)) (.inl rfl) _ _ _ _ _ _)) (first | (go_at_call 12; refine (hAll.out _ ((Keeps.refl Nil _).drew)).mono ?_; rintro e w5 ⟨g, cap, rfl, hr5, hk5, hg5⟩; have hk5' := Lib.hid ((Keeps.refl Nil _).drew.trans hk5); have hr5' := Lib.hid hr5; clear hk5 hg5 hr5) | (go_at_call 39; refine (contains39 hr5'.out hlen.out (s := ⟨(i : Int) + 1, c, b⟩) (hLC.out _ hk5'.out).2.1 (hLC.out _ hk5'.out).2.2 hS.out hL.out).mono ?_; rintro e w6 ⟨rfl, hk6⟩; have hk6' := Lib.hid (hk5'.out.trans hk6); clear hk6; obtain ⟨c0, c1, c2, f0, f1, f2⟩ := hRC.out _ hk6'.out))
  all_goals (
    have hfin := Lib.hid (Keeps.set3 (S := Nil) (g := w.heap.size + 1) (hk0'.out.trans hk6'.out) (.inr (by omega)) 0 1 2 (.int .i64 ((i : Int) + 1)) (.int .i64 c) (.int .i64 b))
    have y := Lib.hid (cells3 w6 (w.heap.size + 1) (v0 := .int .i64 ((i : Int) + 1)) (v1 := .int .i64 c) (v2 := .int .i64 b) c0 c1 c2)
    clear c0 c1 c2 f0 f1 f2
    go_wp2_with fail
    obtain ⟨y0, y1, y2⟩ := y.out
    exact bodyPost_ret (v := .tuple #[spV ⟨(i : Int) + 1, c, b⟩, .bool (!(spAll T).any (over ⟨(i : Int) + 1, c, b⟩))]) (by simp [results, Try.results34, go_sem, spV, y0, y1, y2]) rfl ⟨rfl, hfin.out⟩)
end Go.Proofs.Ytmdgbcbnciaikaa
