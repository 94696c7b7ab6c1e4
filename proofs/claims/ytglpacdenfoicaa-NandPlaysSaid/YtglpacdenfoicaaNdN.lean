/- nand: an operation is counted, and done -/
import Derived.Test.YtglpacdenfoicaaNdM
namespace Go.Proofs.Ytglpacdenfoicaa
open Go.RowKit

variable {w w' : World} {ab bb bc fc : Nat} {db : Nat → Nat} {pb : Nat → Nat → Nat} {fa : Option Addr} {L : List Fx} {A A' : Nd} {O T : Nat → Prop}
/-- what a part of an operation leaves, where Z may be written besides and X holds behind it -/
def Leaves (W : World) (ab bb bc : Nat) (db : Nat → Nat) (pb : Nat → Nat → Nat) (fa : Option Addr) (fc : Nat) (O Z : Nat → Prop) (X : World → (Nat → Prop) → Prop) (r : Ending) (A' : Nd) (e : Ending) (w' : World) : Prop :=
  e = r ∧ ∃ L' O', NdB w' ab A' bb bc db pb fa fc L' O' ∧ Keeps (fun k => O k ∨ Z k) W w' ∧ (∀ k, O' k → O k ∨ W.heap.size ≤ k) ∧ X w' O'
theorem cut_find {A : Nd} {op : Int} (h : firstF (·.cuts op) A.F 0 = -1) : A.cut op = none := by unfold Nd.cut; rw [firstF_none h]; rfl
theorem cut_found {A : Nd} {op : Int} (h : 0 ≤ firstF (·.cuts op) A.F 0) : ∃ i f, A.F[i]? = some f ∧ firstF (·.cuts op) A.F 0 = ((i : Nat) : Int) ∧ A.cut op = some f.part := by
  obtain ⟨i, f, h1, h2, h3, _⟩ := firstF_at h
  exact ⟨i, f, h1, by rw [h2]; simp, by unfold Nd.cut; rw [h3]; rfl⟩
/-- a counter of the array -/
structure Counter (A A1 : Nd) (ko x : Nat) : Prop where
  small : ko < 14
  at_ : ∀ bb bc fa fn fc, (ndCells { A with ops := A.ops + 1 } bb bc fa fn fc)[ko]? = some (.int .i64 (x : Nat)) ∧ (ndCells { A with ops := A.ops + 1 } bb bc fa fn fc).setIfInBounds ko (.int .i64 ((x + 1 : Nat) : Int)) = ndCells A1 bb bc fa fn fc
  S : A1.S = A.S
  B : A1.B = A.B
  F : A1.F = A.F
  bound : x ≤ 1000000
  ops : A1.ops = A.ops + 1
  cuts : A1.cuts = A.cuts
def Nd.offCut (A1 : Nd) (c : Nat) : Nd := { A1 with off := true, cuts := c + 1 }
def Nd.fail (A1 : Nd) : Nd := { A1 with fails := A1.fails + 1 }
set_option maxHeartbeats 8000000 in
set_option maxRecDepth 100000 in
theorem do29 {A1 : Nd} {ko x d n : Nat} {fw fpt : FuncId} {f1 f2 c1 c2 : Array Value} {whole : Nd → Int × Nd} {part : Nd → Int → Nd} {Z : Nat → Prop} {X : World → (Nat → Prop) → Prop}
    (h : NdB w ab A bb bc db pb fa fc L O) (hok : A.Ok) (hlt : A.ops ≤ 1000000 ∧ A.cuts ≤ 1000000) (hc : Counter A A1 ko x)
    (hfl : (whole A1).2.fails ≤ 1000000)
    (hen1 : ∀ args w, (callFunc fw args).run Try.prog w = .ok (.enter fw args) w) (hen2 : ∀ args w, (callFunc fpt args).run Try.prog w = .ok (.enter fpt args) w)
    (hW : ∀ W, NdB W ab A1 bb bc db pb fa fc L O → Keeps (· = ab) w W → Calls Try.prog fw (f1 ++ #[.int .i64 (A.ops : Nat)] ++ c1) W (Leaves W ab bb bc db pb fa fc O Z X (.returned (.int .i64 (whole A1).1)) (whole A1).2))
    (hP : ∀ W (pt : Nat), NdB W ab (A1.offCut A.cuts) bb bc db pb fa fc L O → Keeps (· = ab) w W → Calls Try.prog fpt (f2 ++ (#[.int .i64 (A.ops : Nat), .int .i64 (pt : Nat)] ++ c2)) W (Leaves W ab bb bc db pb fa fc O (fun _ => False) (fun _ _ => True) (.returned (.tuple #[])) (part (A1.offCut A.cuts) (pt : Nat))))
    (hX : ∀ w1 w2 O', X w1 O' → Keeps (· = ab) w1 w2 → X w2 O') :
    Calls Try.prog 29 #[.pointer (some ⟨ab, 0, none⟩), .pointer (some ⟨ab, ko, none⟩), .agg #[.int .i64 (d : Nat), .int .i64 (n : Nat), .func (.func fw) f1 c1, .func (.func fpt) f2 c2]] w
      (Leaves w ab bb bc db pb fa fc O Z (fun w' O' => (A.cut A.ops = none → A.dead d = false → X w' O') ∧ (A.cut A.ops ≠ none ∨ A.dead d = true → Keeps O w w')) (.returned (.int .i64 (A.doOp A1 d whole part).1)) (A.doOp A1 d whole part).2) := by
  have hmf : ∀ (fn : Fn) (first cap : Array Value) (w : World), (Instr.makeFunc fn first cap).run Try.prog w = .ok (.func fn first cap) w := fun _ _ _ _ => rfl
  obtain ⟨o1, o2⟩ := hlt
  have ha1 := (Keeps.refl Nil w).alloc (.cells #[.int .i64 (d : Nat), .int .i64 (n : Nat), .func (.func fw) f1 c1, .func (.func fpt) f2 c2] 93)
  have hw1 := heap_alloc_new w (.cells #[.int .i64 (d : Nat), .int .i64 (n : Nat), .func (.func fw) f1 c1, .func (.func fpt) f2 c2] 93)
  have ha2 := ha1.alloc (.cells #[.int .i64 (A.ops : Nat)] 3)
  have hN1 := h.keeps ha1 (fun _ _ h => h)
  have hN2 := h.keeps ha2 (fun _ _ h => h)
  have c7' := hN1.cell 7
  have c7 := hN2.cell 7
  have f7 := frozen_of_heap hN2.blk 7
  simp only [ndCells, List.getElem?_toArray, List.getElem?_cons_zero, List.getElem?_cons_succ] at c7 c7'
  have hwb := heap_alloc_old (o' := .cells #[.int .i64 (A.ops : Nat)] 3) hw1
  have hvb : ((w.alloc (.cells #[.int .i64 (d : Nat), .int .i64 (n : Nat), .func (.func fw) f1 c1, .func (.func fpt) f2 c2] 93)).alloc (.cells #[.int .i64 (A.ops : Nat)] 3)).heap[w.heap.size + 1]? = some (.cells #[.int .i64 (A.ops : Nat)] 3 (0, 0)) := heap_new_at (by simp)
  have habl := h.lt ab h.ownA
  have k3 := (ha2.mono (T := (· = ab)) (fun _ h => h.elim)).setCell (p := ⟨ab, 7, none⟩) (.inl rfl) (.int .i64 ((A.ops + 1 : Nat) : Int))
  have hN3 := hN2.editA (A' := { A with ops := A.ops + 1 }) ((Keeps.refl (· = ab) _).setCell (p := ⟨ab, 7, none⟩) (.inl rfl) (.int .i64 ((A.ops + 1 : Nat) : Int))) (heap_setCell_same hN2.blk 7 _) rfl rfl rfl
  have hwb3 := ((Keeps.refl (· = ab) _).setCell (p := ⟨ab, 7, none⟩) (.inl rfl) (.int .i64 ((A.ops + 1 : Nat) : Int))).heap hwb (by omega)
  have hvb3 := ((Keeps.refl (· = ab) _).setCell (p := ⟨ab, 7, none⟩) (.inl rfl) (.int .i64 ((A.ops + 1 : Nat) : Int))).heap hvb (by omega)
  have hN3' := Lib.hid hN3
  have k3' := Lib.hid k3
  have hwb3' := Lib.hid hwb3
  have hvb3' := Lib.hid hvb3
  have hbl' := Lib.hid (And.intro habl (show w.heap.size ≤ w.heap.size from Nat.le_refl _))
  have h' := Lib.hid h
  have hok' := Lib.hid hok
  have hc' := Lib.hid hc
  have hen1' := Lib.hid hen1
  have hen2' := Lib.hid hen2
  have hW' := Lib.hid hW
  have hP' := Lib.hid hP
  have hX' := Lib.hid hX
  obtain ⟨r, hr⟩ : ∃ r, A.doOp A1 d whole part = r := ⟨_, rfl⟩
  rw [hr]
  have hr' := Lib.hid hr
  obtain ⟨XX, hXX⟩ : ∃ XX : World → (Nat → Prop) → Prop, (fun w' O' => (A.cut A.ops = none → A.dead d = false → X w' O') ∧ (A.cut A.ops ≠ none ∨ A.dead d = true → Keeps O w w')) = XX := ⟨_, rfl⟩
  rw [hXX]
  have hXX' := Lib.hid hXX
  clear h hok hc hen1 hen2 hW hP hX hr hXX ha1 ha2 hw1 hN1 hN2 hwb hvb k3 hN3 hwb3 hvb3 habl
  go_enter Try.func29, Try.ntmps29
  go_wp2_with fail
  rw [show ((A.ops : Nat) : Int) + 1 = ((A.ops + 1 : Nat) : Int) from rfl]
  obtain ⟨vb, hvbe⟩ : ∃ vb : Nat, w.heap.size + 1 = vb := ⟨_, rfl⟩
  obtain ⟨wb, hwbe⟩ : ∃ wb : Nat, w.heap.size = wb := ⟨_, rfl⟩
  rw [hvbe] at hvb3' ⊢
  rw [hwbe] at hwb3' ⊢
  generalize ((w.alloc (.cells #[.int .i64 (d : Nat), .int .i64 (n : Nat), .func (.func fw) f1 c1, .func (.func fpt) f2 c2] 93)).alloc (.cells #[.int .i64 (A.ops : Nat)] 3)).setCell ⟨ab, 7, none⟩ (.int .i64 ((A.ops + 1 : Nat) : Int)) = w3 at hN3' k3' hwb3' hvb3' ⊢
  have hko := (hc'.out.at_ bb bc fa L.length fc).1
  have hko2 := (hc'.out.at_ bb bc fa L.length fc).2
  have hAdd := add34 (w := w3) (b := ab) (o := ko) (x := ((x : Nat) : Int)) (s := ((x + 1 : Nat) : Int)) ((cell_of_heap hN3'.out.blk ko).trans hko) (frozen_of_heap hN3'.out.blk ko) (by have := hc'.out.bound; rw [IntWalk.wrap64_in _ (by omega)]; rfl)
  have hks := (Keeps.refl (· = ab) w3).setCell (p := ⟨ab, ko, none⟩) (.inl rfl) (.int .i64 ((x + 1 : Nat) : Int))
  have hN4 := hN3'.out.editA (A' := A1) hks (by rw [heap_setCell_same hN3'.out.blk ko, hko2]) hc'.out.S hc'.out.B hc'.out.F
  have k4 := k3'.out.trans hks
  have hwb4 := hks.heap hwb3'.out (fun e => by have := hbl'.out.1; omega)
  have hvb4 := hks.heap hvb3'.out (fun e => by have := hbl'.out.1; omega)
  have hvbl := lt_of_heap hvb4
  have hAdd' := Lib.hid hAdd
  have hN4' := Lib.hid hN4
  have k4' := Lib.hid k4
  have hwb4' := Lib.hid hwb4
  have hvb4' := Lib.hid hvb4
  clear hko hko2 hAdd hks hN4 k4 hwb4 hvb4 hN3' k3' hwb3' hvb3'
  refine (hAdd'.out).mono ?_
  rintro e w4 ⟨rfl, hw4⟩
  rw [← hw4] at hN4' k4' hwb4' hvb4'
  clear hw4 hAdd'
  have hF : A1.F = A.F := hc'.out.F
  have hFl : A1.F.length ≤ 2000 := by rw [hF]; exact hok'.out.len
  have hLl : L.length = A.F.length := by rw [← hF, ← hN4'.out.fls, List.length_map]
  have hSt := struck56 hN4'.out hFl (A.ops : Nat) 4 (d : Int) 0
  obtain ⟨dd, hdd⟩ : ∃ b, A.dead d = b := ⟨_, rfl⟩
  rw [show A1.struck ((A.ops : Nat) : Int) 4 (d : Int) 0 = A.dead d from by unfold Nd.dead Nd.struck; rw [hF], hdd] at hSt
  have r0 := cell_of_heap hwb4'.out 0
  have r1 := cell_of_heap hvb4'.out 0
  simp only [List.getElem?_toArray, List.getElem?_cons_zero] at r0 r1
  have hSt' := Lib.hid hSt
  have hdd' := Lib.hid hdd
  have hF' := Lib.hid hF
  have hLl' := Lib.hid hLl
  have hlen := hok'.out.len
  clear hF hFl hLl hSt hdd
  go_wp2_with fail
  refine (hSt'.out).mono ?_
  rintro e w5 ⟨rfl, hk5⟩
  have hN5 := hN4'.out.keeps hk5 (fun _ _ h => h)
  have hI := index57 (p := (·.cuts ((A.ops : Nat) : Int))) (caps := #[.pointer (some ⟨vb, 0, none⟩)]) enter58 hN5.fts (by rw [hLl'.out]; omega) (fun y hy W hW => cuts58 y (hW.cell (hk5.cell r1 (fun h => h)) (fun h => h)))
  rw [hN5.fls, hF'.out] at hI
  have c5 := hN5.cell 5
  simp only [ndCells, List.getElem?_toArray, List.getElem?_cons_zero, List.getElem?_cons_succ] at c5
  have hI' := Lib.hid hI
  have hk5' := Lib.hid hk5
  clear hI hk5 hN5 hSt' r0 r1
  go_wp2_with fail
  refine (hI'.out).mono ?_
  rintro e w6 ⟨rfl, hk6⟩
  have k46 := Lib.hid (hk5'.out.trans hk6)
  have hN6 := Lib.hid (hN4'.out.keeps k46.out (fun _ _ h => h))
  have k6 := Lib.hid (k4'.out.trans (k46.out.mono (fun _ h => h.elim)))
  have hwb6 := Lib.hid (k46.out.heap hwb4'.out (fun h => h))
  have hvb6 := Lib.hid (k46.out.heap hvb4'.out (fun h => h))
  clear hk6 hI' hk5' c5 k46 k4' hN4' hwb4' hvb4'
  have hcase : firstF (·.cuts ((A.ops : Nat) : Int)) A.F 0 = -1 ∨ 0 ≤ firstF (·.cuts ((A.ops : Nat) : Int)) A.F 0 := by
    rcases firstF_neg (p := (·.cuts ((A.ops : Nat) : Int))) (L := A.F) (k := 0) with h | h
    · exact .inl h
    · exact .inr (by simpa using h)
  rcases hcase with hcut | hcut
  · have hcn := Lib.hid (cut_find hcut)
    rw [hcut]
    clear hcut
    cases dd with
    | true =>
      have hres := Lib.hid (show (41, A1) = r from by rw [← hr'.out]; unfold Nd.doOp; rw [hcn.out, hdd'.out]; rfl)
      go_wp2_with fail
      go_ret
      rw [← hres.out, ← hXX'.out]
      exact ⟨rfl, L, O, hN6.out, k6.out.mono (fun j hj => .inl (by rw [hj]; exact hN6.out.ownA)), fun k hk => .inl hk, (fun _ h2 => by rw [hdd'.out] at h2; cases h2), fun _ => k6.out.mono (fun j hj => by rw [hj]; exact hN6.out.ownA)⟩
    | false =>
      have hCW := Lib.hid (hW'.out w6 hN6.out k6.out)
      have hres := Lib.hid (show (if (whole A1).1 = 43 then (43, { (whole A1).2 with fails := (whole A1).2.fails + 1 }) else whole A1) = r from by rw [← hr'.out]; unfold Nd.doOp; rw [hcn.out, hdd'.out]; rfl)
      have r2 := cell_of_heap hwb6.out 2
      have r1 := cell_of_heap hvb6.out 0
      simp only [List.getElem?_toArray, List.getElem?_cons_zero, List.getElem?_cons_succ] at r2 r1
      have hen := hen1'.out
      obtain ⟨cw, hcw⟩ : ∃ cw, (whole A1).1 = cw := ⟨_, rfl⟩
      rw [hcw] at hCW hres
      have hcw' := Lib.hid hcw
      clear hcw
      go_wp2_with fail
      refine (hCW.out).mono ?_
      rintro e w7 ⟨rfl, L7, O7, hN7, k7, hO7, hX7⟩
      clear hen r2 r1
      have c12 := hN7.cell 12
      have f12 := frozen_of_heap hN7.blk 12
      simp only [ndCells, List.getElem?_toArray, List.getElem?_cons_zero, List.getElem?_cons_succ] at c12
      have hN7' := Lib.hid hN7
      have k7' := Lib.hid ((k6.out.mono (T := fun k => O k ∨ Z k) (fun j hj => .inl (by rw [hj]; exact hN6.out.ownA))).trans k7)
      have hO7' := Lib.hid (show ∀ k, O7 k → O k ∨ w.heap.size ≤ k from fun k hk => (hO7 k hk).imp id (fun h => Nat.le_trans k6.out.size h))
      have hX7' := Lib.hid hX7
      by_cases h43 : cw = 43
      · subst h43
        rw [if_pos rfl] at hres
        have hAdd := Lib.hid (add34 (w := w7) (b := ab) (o := 12) (s := (((whole A1).2.fails + 1 : Nat) : Int)) c12 f12 (by rw [IntWalk.wrap64_in _ (by omega)]; rfl))
        clear hN7 k7 hO7 hX7 c12 f12
        go_wp2_with fail
        refine (hAdd.out).mono ?_
        rintro e w8 ⟨rfl, hw8⟩
        have hN8 := hN7'.out.editA (w' := w8) (A' := { (whole A1).2 with fails := (whole A1).2.fails + 1 }) (by rw [hw8]; exact (Keeps.refl (· = ab) w7).setCell (p := ⟨ab, 12, none⟩) (.inl rfl) _) (by rw [hw8]; exact heap_setCell_same hN7'.out.blk 12 _) rfl rfl rfl
        have k8 := (Keeps.refl (· = ab) w7).setCell (p := ⟨ab, 12, none⟩) (.inl rfl) (.int .i64 (((whole A1).2.fails + 1 : Nat) : Int))
        rw [← hw8] at k8
        have hN8' := Lib.hid hN8
        have k8' := Lib.hid k8
        clear hw8 hN8 k8
        go_wp2_with fail
        go_ret
        rw [← hres.out, ← hXX'.out]
        exact ⟨rfl, L7, O7, hN8'.out, k7'.out.trans' k8'.out (fun j hj => by rw [hj]; exact (hO7'.out _ hN8'.out.ownA).imp .inl id), hO7'.out, (fun _ _ => hX'.out _ _ _ hX7'.out k8'.out), fun h => h.elim (fun h => absurd hcn.out h) (fun h => by rw [hdd'.out] at h; cases h)⟩
      · have e43 : (cw == 43) = false := by simpa using h43
        rw [if_neg h43] at hres
        clear h43 hN7 k7 hO7 hX7 c12 f12
        go_wp2_with fail
        go_ret
        rw [← hres.out, ← hXX'.out, hcw'.out]
        exact ⟨rfl, L7, O7, hN7'.out, k7'.out, hO7'.out, (fun _ _ => hX7'.out), fun h => h.elim (fun h => absurd hcn.out h) (fun h => by rw [hdd'.out] at h; cases h)⟩
  · obtain ⟨i, f, hf, hfi, hcp⟩ := cut_found hcut
    rw [hfi]
    have hfOk := hok'.out.F f (List.mem_of_getElem? hf)
    obtain ⟨pt, hpt⟩ : ∃ pt : Nat, f.part = (pt : Int) := ⟨f.part.toNat, by have := hfOk.part.1; omega⟩
    have hcp' := Lib.hid hcp
    have hil : i < A.F.length := (List.getElem?_eq_some_iff.1 hf).1
    have k7 := (Keeps.refl (· = ab) w6).setCell (p := ⟨ab, 6, none⟩) (.inl rfl) (.bool true)
    have c6 := hN6.out.cell 6
    have f6 := frozen_of_heap hN6.out.blk 6
    simp only [ndCells, List.getElem?_toArray, List.getElem?_cons_zero, List.getElem?_cons_succ] at c6
    have hN7 := hN6.out.editA (A' := { A1 with off := true }) k7 (heap_setCell_same hN6.out.blk 6 _) rfl rfl rfl
    have c13 := hN7.cell 13
    have f13 := frozen_of_heap hN7.blk 13
    simp only [ndCells, List.getElem?_toArray, List.getElem?_cons_zero, List.getElem?_cons_succ] at c13
    rw [hc'.out.cuts] at c13
    have hAdd := Lib.hid (add34 (b := ab) (o := 13) (s := ((A.cuts + 1 : Nat) : Int)) c13 f13 (by rw [IntWalk.wrap64_in _ (by omega)]; rfl))
    have k8 := k7.setCell (p := ⟨ab, 13, none⟩) (.inl rfl) (.int .i64 ((A.cuts + 1 : Nat) : Int))
    have hN8 := hN7.editA (A' := A1.offCut A.cuts) ((Keeps.refl (· = ab) _).setCell (p := ⟨ab, 13, none⟩) (.inl rfl) (.int .i64 ((A.cuts + 1 : Nat) : Int))) (heap_setCell_same hN7.blk 13 _) rfl rfl rfl
    have hwb8 := k8.heap hwb6.out (fun e => by have := hbl'.out.1; omega)
    have hvb8 := k8.heap hvb6.out (fun e => by have := hbl'.out.1; have := hbl'.out.2; omega)
    have hN8' := Lib.hid hN8
    have k8' := Lib.hid k8
    have hwb8' := Lib.hid hwb8
    have hvb8' := Lib.hid hvb8
    have hfL := Lib.hid (show ∃ y, L[i]? = some y ∧ y.f.part = (pt : Int) from by
      have h1 : (L.map (·.f))[i]? = some f := by rw [hN6.out.fls, hF'.out]; exact hf
      rw [List.getElem?_map] at h1
      cases hq : L[i]? with
      | none => rw [hq] at h1; cases h1
      | some y => rw [hq] at h1; simp at h1; exact ⟨y, rfl, by rw [h1]; exact hpt⟩)
    have hpt' := Lib.hid hpt
    clear hcut hf hfi hcp hfOk hN7 c13 f13 k7 k8 hN8 hwb8 hvb8 hpt
    go_wp2_with fail
    refine (hAdd.out).mono ?_
    rintro e w8 ⟨rfl, hw8⟩
    rw [← hw8] at hN8' k8' hwb8' hvb8'
    clear hw8 hAdd c6 f6
    cases dd with
    | true =>
      have hres := Lib.hid (show (40, A1.offCut A.cuts) = r from by rw [← hr'.out]; unfold Nd.doOp; rw [hcp'.out, hdd'.out]; rfl)
      go_wp2_with fail
      go_ret
      rw [← hres.out, ← hXX'.out]
      exact ⟨rfl, L, O, hN8'.out, (k6.out.trans k8'.out).mono (fun j hj => .inl (by rw [hj]; exact hN8'.out.ownA)), fun k hk => .inl hk, (fun h1 _ => by rw [hcp'.out] at h1; cases h1), fun _ => (k6.out.trans k8'.out).mono (fun j hj => by rw [hj]; exact hN8'.out.ownA)⟩
    | false =>
      have hres := Lib.hid (show (40, part (A1.offCut A.cuts) (pt : Int)) = r from by rw [← hr'.out]; unfold Nd.doOp; rw [hcp'.out, hdd'.out, hpt'.out]; rfl)
      have hCP := Lib.hid (hP'.out w8.drew pt (hN8'.out.keeps (Keeps.refl Nil w8).drew (fun _ _ h => h)) ((k6.out.trans k8'.out).drew))
      have r3 := cell_of_heap hwb8'.out 3
      have r1 := cell_of_heap hvb8'.out 0
      simp only [List.getElem?_toArray, List.getElem?_cons_zero, List.getElem?_cons_succ] at r3 r1
      obtain ⟨y, hy, hyp⟩ := hfL.out
      have c5 := hN8'.out.cell 5
      simp only [ndCells, List.getElem?_toArray, List.getElem?_cons_zero, List.getElem?_cons_succ] at c5
      obtain ⟨fb, hfa, _, _, hcc⟩ := hN8'.out.fts.cell encX_len hy
      have e6 := hcc 6 _ (by decide) rfl
      rw [hyp] at e6
      rw [hfa] at c5
      have hiL : i < L.length := by rw [hLl'.out]; exact hil
      have hen := hen2'.out
      clear hcc hy hyp hfa
      go_wp2_with fail
      go_still_tail 12, (by kernel_rfl)
      change wpList _ _ _ _ _ w8.drew
      go_wp2_with fail
      refine (hCP.out).mono ?_
      rintro e w9 ⟨rfl, L9, O9, hN9, k9, hO9, _⟩
      have hN9' := Lib.hid hN9
      have k9' := Lib.hid k9
      have hO9' := Lib.hid hO9
      clear hN9 k9 hO9 hen r3 r1 c5 e6
      go_wp2_with fail
      go_ret
      rw [← hres.out, ← hXX'.out]
      refine ⟨rfl, L9, O9, hN9'.out, (((k6.out.trans k8'.out).mono (T := fun k => O k ∨ Z k) (fun j hj => .inl (by rw [hj]; exact hN8'.out.ownA))).drew).trans (k9'.out.mono (fun j hj => .inl (hj.elim id (fun h => h.elim)))), fun k hk => (hO9'.out k hk).imp id (fun h => Nat.le_trans (k6.out.trans k8'.out).size h), (fun h1 _ => by rw [hcp'.out] at h1; cases h1), fun _ => (((k6.out.trans k8'.out).mono (T := O) (fun j hj => by rw [hj]; exact hN8'.out.ownA)).drew).trans (k9'.out.mono (fun j hj => hj.elim id (fun h => h.elim)))⟩
end Go.Proofs.Ytglpacdenfoicaa
