/- nand: Read -/
import Derived.Test.YtglpacdenfoicaaNdP
namespace Go.Proofs.Ytglpacdenfoicaa
open Go.RowKit

variable {w w' : World} {ab bb bc fc : Nat} {db : Nat → Nat} {pb : Nat → Nat → Nat} {fa : Option Addr} {L : List Fx} {A A' : Nd} {O T : Nat → Prop}
theorem enter32 (args : Array Value) (w : World) : (callFunc 32 args).run Try.prog w = .ok (.enter 32 args) w := by kernel_rfl
theorem enter35 (args : Array Value) (w : World) : (callFunc 35 args).run Try.prog w = .ok (.enter 35 args) w := by kernel_rfl
theorem none35 (a b : Int) (w : World) : Calls Try.prog 35 #[.int .i64 a, .int .i64 b] w fun e w' => e = .returned (.tuple #[]) ∧ w' = w := by
  go_enter Try.func35, Try.ntmps35
  go_wp2_with fail
  go_end0
  exact ⟨rfl, rfl⟩
/-- what was read -/
def RdVal (w w' : World) (O' : Nat → Prop) (v : Value) : Option (List Int) → Prop
  | none => v = .slice none 0 0
  | some l => ∃ g c, v = .slice (some ⟨g, 0, none⟩) l.length c ∧ NumRow .u8 w' 5 (some ⟨g, 0, none⟩) c l ∧ w.heap.size ≤ g ∧ ¬ O' g
def RdOut (w : World) (ab : Nat) (O : Nat → Prop) (A : Nd) (d n p : Nat) (e : Ending) (w' : World) : Prop :=
  ∃ v, e = .returned (.tuple #[v, .int .i64 (A.read d n p).1]) ∧ ∃ O', NdAt w' ab (A.read d n p).2 O' ∧ Keeps O w w' ∧ (∀ k, O' k → O k ∨ w.heap.size ≤ k) ∧ RdVal w w' O' v (A.readOut d n p)
theorem readSt_len {A : Nd} (h : A.Ok) (op : Int) (d n p : Nat) : (A.readSt op d n p).1.length = A.S.bytes := by
  have := faultsTo_len op d n p (pgBytes A.S.bytes ((A.B d n).pg p), A.flips) A.F A.F.length
  rw [faultsTo_all] at this
  exact this.trans (pgBytes_len h d n p)
set_option maxHeartbeats 8000000 in
set_option maxRecDepth 100000 in
theorem read14 {d n p b : Nat} (h : NdB w ab A bb bc db pb fa fc L O) (hok : A.Ok) (hlt : A.Lt b) (hb : b ≤ 1000000) (hoff : A.off = false) (hd : d < A.S.dies) (hn : n < A.S.blocks) (hp : p < A.S.pages) :
    Calls Try.prog 14 #[.pointer (some ⟨ab, 0, none⟩), .int .i64 (d : Nat), .int .i64 (n : Nat), .int .i64 (p : Nat)] w (RdOut w ab O A d n p) := by
  have hmf : ∀ (fn : Fn) (first cap : Array Value) (w : World), (Instr.makeFunc fn first cap).run Try.prog w = .ok (.func fn first cap) w := fun _ _ _ _ => rfl
  obtain ⟨s, hs⟩ : ∃ s : Nat, w.heap.size = s := ⟨_, rfl⟩
  obtain ⟨w1, hw1⟩ : ∃ w1, (((w.alloc (.cells #[.pointer (some ⟨ab, 0, none⟩)] 26)).alloc (.cells #[.int .i64 (d : Nat)] 3)).alloc (.cells #[.int .i64 (n : Nat)] 3)).alloc (.cells #[.int .i64 (p : Nat)] 3) = w1 := ⟨_, rfl⟩
  have k1 : Keeps Nil w w1 := by rw [← hw1]; exact ((((Keeps.refl Nil w).alloc _).alloc _).alloc _).alloc _
  have b0 : w1.heap[s]? = some (.cells #[.pointer (some ⟨ab, 0, none⟩)] 26 (0, 0)) := by rw [← hw1, ← hs]; exact heap_alloc_old (heap_alloc_old (heap_alloc_old (heap_alloc_new w _)))
  have b1 : w1.heap[s + 1]? = some (.cells #[.int .i64 (d : Nat)] 3 (0, 0)) := by rw [← hw1, ← hs]; exact heap_alloc_old (heap_alloc_old (heap_new_at (by simp)))
  have b2 : w1.heap[s + 1 + 1]? = some (.cells #[.int .i64 (n : Nat)] 3 (0, 0)) := by rw [← hw1, ← hs]; exact heap_alloc_old (heap_new_at (by simp))
  have b3 : w1.heap[s + 1 + 1 + 1]? = some (.cells #[.int .i64 (p : Nat)] 3 (0, 0)) := by rw [← hw1, ← hs]; exact heap_new_at (by simp)
  have hs1 : w1.heap.size = s + 4 := by rw [← hw1]; simp; omega
  have hN1 := h.keeps k1 (fun _ _ h => h)
  have c6 := hN1.cell 6
  simp only [ndCells, List.getElem?_toArray, List.getElem?_cons_zero, List.getElem?_cons_succ] at c6
  rw [hoff] at c6
  have x0 := cell_of_heap b0 0
  have x1 := cell_of_heap b1 0
  have x2 := cell_of_heap b2 0
  simp only [List.getElem?_toArray, List.getElem?_cons_zero] at x0 x1 x2
  have hAt := at_in hN1 hd hn
  rw [← hw1] at c6 x0 x1 x2 hAt
  have hAt' := Lib.hid hAt
  have hs' := Lib.hid hs
  have hw1' := Lib.hid hw1
  have h' := Lib.hid h
  have hok' := Lib.hid hok
  have hlt' := Lib.hid hlt
  have hbx := Lib.hid (And.intro b0 (And.intro b1 (And.intro b2 b3)))
  have hs1' := Lib.hid hs1
  have k1' := Lib.hid k1
  rw [← hs] at x0 x1 x2
  clear h hok hlt hoff hs hw1 b0 b1 b2 b3 hs1 k1 hN1 hAt
  go_enter Try.func14, Try.ntmps14
  go_wp2_with fail
  rw [hw1'.out] at hAt' ⊢
  rw [hs'.out]
  refine (hAt'.out).mono ?_
  rintro e w2 ⟨rfl, hw2⟩
  rw [hw2]
  clear hw2 c6 x0 x1 x2 hAt'
  go_wp2_with fail
  obtain ⟨cb, hcb⟩ : ∃ cb : Nat, w1.heap.size = cb := ⟨_, rfl⟩
  rw [hcb]
  obtain ⟨W2, hW2⟩ : ∃ W2, w1.alloc (.cells #[.pointer (some ⟨db d, n * 3, none⟩)] 83) = W2 := ⟨_, rfl⟩
  have kA : Keeps Nil w1 W2 := by rw [← hW2]; exact (Keeps.refl Nil w1).alloc _
  have hb4 : W2.heap[cb]? = some (.cells #[.pointer (some ⟨db d, n * 3, none⟩)] 83 (0, 0)) := by rw [← hW2, ← hcb]; exact heap_alloc_new w1 _
  have hsz2 : W2.heap.size = cb + 1 := by rw [← hW2, ← hcb]; simp
  have hN2 := h'.out.keeps (k1'.out.trans kA) (fun _ _ h => h)
  have z0 := cell_of_heap (kA.heap hbx.out.1 (fun h => h)) 0
  have z1 := cell_of_heap (kA.heap hbx.out.2.1 (fun h => h)) 0
  have z2 := cell_of_heap (kA.heap hbx.out.2.2.1 (fun h => h)) 0
  have z3 := cell_of_heap (kA.heap hbx.out.2.2.2 (fun h => h)) 0
  have z4 := cell_of_heap hb4 0
  have c2 := hN2.cell 2
  simp only [ndCells, List.getElem?_toArray, List.getElem?_cons_zero, List.getElem?_cons_succ] at c2 z0 z1 z2 z3 z4
  have y1 : decide ((p : Int) < 0) = false := decide_eq_false (by omega)
  have y2 : decide (A.S.pages ≤ p) = false := decide_eq_false (by omega)
  have y3 : decide ((A.S.pages : Int) ≤ (p : Int)) = false := decide_eq_false (by omega)
  have hcb' := Lib.hid hcb
  have kA' := Lib.hid kA
  have hb4' := Lib.hid hb4
  have hN2' := Lib.hid hN2
  have hsz2' := Lib.hid hsz2
  rw [hW2]
  clear hW2 hcb kA hb4 hN2 hsz2
  go_quiet (fail)
  go_wp2_with fail
  obtain ⟨w3, hw3⟩ : ∃ w3, (W2.drewN nq).alloc (.cells #[.slice none 0 0] 22) = w3 := ⟨_, rfl⟩
  have k23 : Keeps Nil W2 w3 := by rw [← hw3]; exact ((Keeps.refl Nil W2).drewN nq).alloc _
  have hco3 : w3.heap[cb + 1]? = some (.cells #[.slice none 0 0] 22 (0, 0)) := by rw [← hw3, ← hsz2'.out]; exact heap_alloc_new (W2.drewN nq) _
  rw [hw3, hsz2'.out]
  clear hw3 z0 z1 z2 z3 z4 c2 y1 y2 y3
  have kAll := (k1'.out.trans kA'.out).trans k23
  have hN3 := hN2'.out.keeps k23 (fun _ _ h => h)
  have kB := kA'.out.trans k23
  have hbx3 : RdBox w3 s cb (s + 1 + 1 + 1) (s + 1) (s + 1 + 1) ab (db d) (n * 3) d n p :=
    ⟨kB.heap hbx.out.1 (fun h => h), k23.heap hb4'.out (fun h => h), kB.heap hbx.out.2.2.2 (fun h => h), kB.heap hbx.out.2.1 (fun h => h), kB.heap hbx.out.2.2.1 (fun h => h)⟩
  have hcb4 : cb = s + 4 := by rw [← hcb'.out]; exact hs1'.out
  have hOs : ∀ k, O k → k < s := fun k hk => by have := h'.out.lt k hk; rw [hs'.out] at this; exact this
  have hab : ab < s := hOs ab h'.out.ownA
  have kd := (Keeps.refl Nil w3).drew
  have hA := hok'.out
  have hok1 : A.tickR.Ok := ⟨hA.S, hA.F, hA.len, hA.pages⟩
  have hD := do29 (w := w3.drew) (d := d) (n := n) (fw := 32) (fpt := 35) (f1 := #[]) (f2 := #[]) (c1 := #[.pointer (some ⟨s, 0, none⟩), .pointer (some ⟨cb, 0, none⟩), .pointer (some ⟨s + 1 + 1 + 1, 0, none⟩), .pointer (some ⟨cb + 1, 0, none⟩), .pointer (some ⟨s + 1, 0, none⟩), .pointer (some ⟨s + 1 + 1, 0, none⟩)]) (c2 := #[])
    (whole := Nd.readW A.ops d n p) (part := fun A _ => A) (Z := (· = cb + 1)) (X := fun W' O' => ∃ g c, W'.heap[cb + 1]? = some (.cells #[.slice (some ⟨g, 0, none⟩) A.S.bytes c] 22 (0, 0)) ∧ NumRow .u8 W' 5 (some ⟨g, 0, none⟩) c (A.readSt A.ops d n p).1 ∧ s ≤ g ∧ ¬ O' g)
    (hN3.keeps kd (fun _ _ h => h)) hA ⟨Nat.le_trans hlt'.out.ops hb, Nat.le_trans hlt'.out.cuts hb⟩ (counterR hlt'.out hb) (Nat.le_trans hlt'.out.fails hb) enter32 enter35
    (fun W hW hk => by
      have hbW := (hbx3.keeps kd (fun h => h) (fun h => h) (fun h => h) (fun h => h) (fun h => h)).keeps hk (by omega) (by omega) (by omega) (by omega) (by omega)
      have hcW := hk.heap (kd.heap hco3 (fun h => h)) (by omega)
      refine (read32 (op := (A.ops : Nat)) hW hok1 hd hn hp hbW hcW (fun h => by have := hOs _ h; omega) (fun h => by have := hOs _ h; omega) (fun h => by have := hOs _ h; omega) (fun h => by have := hOs _ h; omega) (fun h => by have := hOs _ h; omega) (fun h => by have := hOs _ h; omega)).mono fun e W' hE => ?_
      obtain ⟨q1, L', g, c, q2, q3, q4, q5, q6⟩ := hE
      have hsW : s ≤ W.heap.size := by have := lt_of_heap hbW.a; omega
      exact ⟨q1, L', O, q2, q5, fun k hk => .inl hk, g, c, q3, q4, by omega, fun ho => by have := hW.lt g ho; omega⟩)
    (fun W pt hW hk => (none35 _ _ W).mono fun e W' hE => ⟨hE.1, L, O, by rw [hE.2]; exact hW, by rw [hE.2]; exact Keeps.refl _ _, fun k hk => .inl hk, trivial⟩)
    (fun v1 v2 O' hx hk => by
      obtain ⟨g, c, q1, q2, q3, q4⟩ := hx
      exact ⟨g, c, hk.heap q1 (by omega), q2.keeps hk (fun q hq => by simp [blk] at hq; omega), q3, q4⟩)
  rw [show A.doOp A.tickR d (Nd.readW A.ops d n p) (fun A _ => A) = A.read d n p from rfl] at hD
  have z0 := cell_of_heap hbx3.a 0
  have z1 := cell_of_heap hbx3.d 0
  have z2 := cell_of_heap hbx3.n 0
  simp only [List.getElem?_toArray, List.getElem?_cons_zero] at z0 z1 z2
  have hD' := Lib.hid hD
  have hco3' := Lib.hid hco3
  have kAll' := Lib.hid (kAll.trans kd)
  have hOs' := Lib.hid hOs
  clear hD hco3 k23 kAll hN3 kB hbx3 hcb4 hOs hab kd hok1 hA
  go_wp2_with fail
  go_still_tail 9, (by kernel_rfl)
  change wpList _ _ _ _ _ w3.drew
  go_wp2_with fail
  refine (hD'.out).mono ?_
  intro e w5 hE
  obtain ⟨rfl, L5, O5, hN5, k5, hO5, hX5, hY5⟩ := hE
  have hcbs : s ≤ cb + 1 := by rw [← hcb'.out, hs1'.out]; omega
  have kW : Keeps O w w5 := (kAll'.out.mono (T := O) (fun _ h => h.elim)).trans' k5 (fun j hj => hj.imp id (fun e => by rw [e, hs'.out]; exact hcbs))
  have hO9 : ∀ k, O5 k → O k ∨ w.heap.size ≤ k := fun k hk => (hO5 k hk).imp id (fun h => Nat.le_trans kAll'.out.size h)
  have hlen := readSt_len hok'.out A.ops d n p
  by_cases hc : A.cut A.ops = none ∧ A.dead d = false
  · obtain ⟨g, c, q1, q2, q3, q4⟩ := hX5 hc.1 hc.2
    have hv := cell_of_heap q1 0
    simp only [List.getElem?_toArray, List.getElem?_cons_zero] at hv
    have hro : A.readOut d n p = some (A.readSt A.ops d n p).1 := by unfold Nd.readOut; rw [hc.1, hc.2]; rfl
    have hfin := Lib.hid (show RdOut w ab O A d n p (.returned (.tuple #[.slice (some ⟨g, 0, none⟩) A.S.bytes c, .int .i64 (A.read d n p).1])) w5 from
      ⟨_, rfl, O5, ⟨_, _, _, _, _, _, _, hN5⟩, kW, hO9, by rw [hro]; exact ⟨g, c, by rw [hlen], q2, by rw [hs'.out]; exact q3, q4⟩⟩)
    clear hN5 k5 hO5 hX5 hY5 kW hO9 hlen hc q1 q2 q3 q4 hro z0 z1 z2 hcbs
    go_wp2_with fail
    go_ret2
    exact hfin.out
  · have kO := hY5 (by
      cases h1 : A.cut A.ops with
      | some x => exact .inl (fun e => by cases e)
      | none =>
        cases h2 : A.dead d with
        | true => exact .inr rfl
        | false => exact absurd ⟨h1, h2⟩ hc)
    have hv := cell_of_heap (kO.heap ((Keeps.refl Nil w3).drew.heap hco3'.out (fun h => h)) (fun h => by have := hOs'.out _ h; omega)) 0
    simp only [List.getElem?_toArray, List.getElem?_cons_zero] at hv
    have hro : A.readOut d n p = none := by
      unfold Nd.readOut
      cases h1 : A.cut A.ops with
      | some x => rfl
      | none =>
        cases h2 : A.dead d with
        | true => rfl
        | false => exact absurd ⟨h1, h2⟩ hc
    have hfin := Lib.hid (show RdOut w ab O A d n p (.returned (.tuple #[.slice none 0 0, .int .i64 (A.read d n p).1])) w5 from
      ⟨_, rfl, O5, ⟨_, _, _, _, _, _, _, hN5⟩, kW, hO9, by rw [hro]; rfl⟩)
    clear hN5 k5 hO5 hX5 hY5 kW hO9 hlen hc hro z0 z1 z2 hcbs kO
    go_wp2_with fail
    go_ret2
    exact hfin.out
end Go.Proofs.Ytglpacdenfoicaa
