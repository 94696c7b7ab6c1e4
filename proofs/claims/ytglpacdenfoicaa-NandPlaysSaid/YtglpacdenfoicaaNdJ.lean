/- nand: a block is erased: bad, whole -/
import Derived.Test.YtglpacdenfoicaaNdI
import Derived.Lib.SliceRun
namespace Go.Proofs.Ytglpacdenfoicaa
open Go.RowKit

variable {w w' : World} {ab bb bc fc : Nat} {db : Nat → Nat} {pb : Nat → Nat → Nat} {fa : Option Addr} {L : List Fx} {A A' : Nd} {O T : Nat → Prop}
theorem PgsAt.setNone {pages g : Nat} {pg : Nat → Option (List Int)} (h : PgsAt w O pages g pg) {p : Nat} (hp : p < pages) : PgsAt (w.setCell ⟨g, p, none⟩ (.slice none 0 0)) O pages g (fun i => if i = p then none else pg i) := by
  obtain ⟨ps, h1, h2, h3⟩ := h
  have hk : Keeps (· = g) w (w.setCell ⟨g, p, none⟩ (.slice none 0 0)) := (Keeps.refl (· = g) w).setCell (.inl rfl) _
  refine ⟨_, heap_setCell_same h1 _ _, by simpa using h2, fun j hj => ?_⟩
  by_cases hjp : j = p
  · subst hjp
    refine ⟨_, set_at (by omega), ?_⟩
    simp only [if_true]
    rfl
  · obtain ⟨v, a, b⟩ := h3 j hj
    refine ⟨v, (set_off (fun e => hjp e.symm)).trans a, ?_⟩
    simp only [hjp, if_false]
    exact b.edit h1 (by decide) hk
theorem clear_cells {pages g : Nat} : ∀ (m o : Nat) {w : World} {pg : Nat → Option (List Int)}, PgsAt w O pages g pg → o + m ≤ pages →
    PgsAt (w.setCells g o (List.replicate m (.slice none 0 0))) O pages g (fun i => if o ≤ i ∧ i < o + m then none else pg i) ∧ Keeps (· = g) w (w.setCells g o (List.replicate m (.slice none 0 0)))
  | 0, o, w, pg, h, _ => by
    have e : (fun i => if o ≤ i ∧ i < o + 0 then none else pg i) = pg := by funext i; rw [if_neg (by omega)]
    rw [e]
    exact ⟨h, Keeps.refl _ _⟩
  | m + 1, o, w, pg, h, hm => by
    have h1 := h.setNone (p := o) (by omega)
    obtain ⟨h2, h3⟩ := clear_cells m (o + 1) h1 (by omega)
    have e : (fun i => if o + 1 ≤ i ∧ i < o + 1 + m then none else if i = o then none else pg i) = fun i => if o ≤ i ∧ i < o + (m + 1) then none else pg i := by
      funext i
      by_cases hi : i = o
      · subst hi; rw [if_neg (by omega), if_pos rfl, if_pos (by omega)]
      · by_cases hj : o + 1 ≤ i ∧ i < o + 1 + m
        · rw [if_pos hj, if_pos (by omega)]
        · rw [if_neg hj, if_neg hi, if_neg (by omega)]
    rw [e] at h2
    exact ⟨h2, ((Keeps.refl (· = g) w).setCell (p := ⟨g, o, none⟩) (.inl rfl) _).trans h3⟩
theorem zero22 (W : World) : (zeroValue 22).run Try.prog W = .ok (.slice none 0 0) W := by kernel_rfl
theorem run_clear80 {pages g m c : Nat} {pg : Nat → Option (List Int)} (h : PgsAt w O pages g pg) (hm : m ≤ pages) :
    ∃ w', (∀ ty, (Builtin.clear_ #[80] ty #[.slice (some ⟨g, 0, none⟩) m c]).run Try.prog w = .ok (.tuple #[]) w') ∧ PgsAt w' O pages g (fun i => if i < m then none else pg i) ∧ Keeps (· = g) w w' := by
  obtain ⟨h2, h3⟩ := clear_cells m 0 h (by omega)
  have e : (fun i => if 0 ≤ i ∧ i < 0 + m then none else pg i) = fun i => if i < m then none else pg i := by funext i; simp
  rw [e] at h2
  refine ⟨_, fun ty => ?_, h2, h3⟩
  cases m with
  | zero => simp [Builtin.clear_, run_underlying Try.underlying80, Result.andThen]; rfl
  | succ m =>
    obtain ⟨ps, q1, q2, q3⟩ := h
    refine Lib.run_clear_slice w 80 22 ty (.slice none 0 0) Try.underlying80 zero22 rfl rfl g 0 (m + 1) c (by omega) (fun j hj => ?_) (fun j hj => frozen_of_heap q1 _)
    rw [Nat.zero_add, cell_of_heap q1, Array.getElem?_eq_getElem (by omega)]; rfl
theorem step_clear {P : Program} {ops : Array Oper} {o : Oper} {a : Act} {w w' : World} {K : Act → World → Prop} {Q : Exit → Act → World → Prop} {E : Prop} (hgd : o.guard = none) (s : Operand) (t : TypeId)
    (ho : o.op = .call { callee := .builtin .clear, args := #[s], argTypes := #[t] }) (v : Value) (hs : a.eval s = v) (hrun : ∀ ty, (Builtin.clear_ #[t] ty #[v]).run P w = .ok (.tuple #[]) w') (h : K (a.put o.dst (.tuple #[])) w') :
    if Region.wanted o (yielded ops a.tmps) = true then Oper.wp P o a w K Q else E := by
  have hw : Region.wanted o (yielded ops a.tmps) = true := by simp [Region.wanted, hgd]
  rw [if_pos hw]
  unfold Oper.wp execOp
  simp only [ho, resolve, invoke, builtin, Sem.run_bind, Sem.run_pure, Result.andThen_ok, List.map_toArray, List.map_cons, List.map_nil, hs, hrun]
  exact h
theorem wpList_clear {P : Program} {ops : Array Oper} {rest : List Oper} {o : Oper} {a : Act} {w w' : World} {Q : Exit → Act → World → Prop} (hgd : o.guard = none) (s : Operand) (t : TypeId)
    (ho : o.op = .call { callee := .builtin .clear, args := #[s], argTypes := #[t] }) (v : Value) (hs : a.eval s = v) (hrun : ∀ ty, (Builtin.clear_ #[t] ty #[v]).run P w = .ok (.tuple #[]) w') (h : wpList P ops Q rest (a.put o.dst (.tuple #[])) w') : wpList P ops Q (o :: rest) a w :=
  wpList_plain hgd fun K hK => by
    unfold Oper.wp execOp
    simp only [ho, resolve, invoke, builtin, Sem.run_bind, Sem.run_pure, Result.andThen_ok, List.map_toArray, List.map_cons, List.map_nil, hs, hrun]
    exact hK _ _ h

/-! ### an eraser -/
def ersCells (ab g o : Nat) (d n : Nat) : Array Value := #[.pointer (some ⟨ab, 0, none⟩), .pointer (some ⟨g, o, none⟩), .int .i64 (d : Nat), .int .i64 (n : Nat)]
set_option maxHeartbeats 4000000 in
set_option maxRecDepth 100000 in
theorem bad64 {qb d n : Nat} {op : Int} (h : NdB w ab A bb bc db pb fa fc L O) (hok : A.Ok) (hd : d < A.S.dies) (hn : n < A.S.blocks) (her : (A.B d n).er ≤ 1000000)
    (hq : w.heap[qb]? = some (.cells (ersCells ab (db d) (n * 3) d n) 102 (0, 0))) (hqO : ¬ O qb) :
    Calls Try.prog 64 #[.pointer (some ⟨qb, 0, none⟩), .int .i64 op] w (Step w ab bb bc db pb fa fc O (.returned (.bool (A.badP op d n 3))) (A.wear d n)) := by
  have q1 := cell_of_heap hq 1
  simp only [ersCells, List.getElem?_toArray, List.getElem?_cons_zero, List.getElem?_cons_succ] at q1
  obtain ⟨_, _, d2, df⟩ := h.cellD hd hn
  have h' := Lib.hid h
  have hok' := Lib.hid hok
  have hq' := Lib.hid hq
  obtain ⟨bad, hbad⟩ : ∃ b, A.badP op d n 3 = b := ⟨_, rfl⟩
  obtain ⟨A2, hA2⟩ : ∃ A2, A.wear d n = A2 := ⟨_, rfl⟩
  rw [hbad, hA2]
  have hbad' := Lib.hid hbad
  have hA2' := Lib.hid hA2
  clear h hok hq hbad hA2
  go_enter Try.func64, Try.ntmps64
  go_wp2_with fail
  have kd := (Keeps.refl (· = db d) w).setCell (p := ⟨db d, n * 3 + 2, none⟩) (.inl rfl) (.int .i64 (((A.B d n).wear.er : Nat) : Int))
  have hN3 := h'.out.editD (n := n) (k' := (A.B d n).wear) hd (w' := w.setCell ⟨db d, n * 3 + 2, none⟩ (.int .i64 (((A.B d n).wear.er : Nat) : Int))) kd rfl ((h'.out.die d hd).setEr hn rfl)
  have hne : ¬ qb = db d := fun e => hqO (by rw [e]; exact h'.out.ownD d hd)
  have hq3 := kd.heap hq'.out hne
  have kO := Lib.hid (kd.mono (T := O) (fun k e => by rw [e]; exact h'.out.ownD d hd))
  have hF3 : (A.setB d n (A.B d n).wear).F.length ≤ 2000 := hok'.out.len
  rw [show (((A.B d n).er : Nat) : Int) + 1 = (((A.B d n).wear.er : Nat) : Int) from rfl]
  clear q1 d2 df kd hne
  generalize w.setCell ⟨db d, n * 3 + 2, none⟩ (.int .i64 (((A.B d n).wear.er : Nat) : Int)) = w3 at hN3 hq3 kO ⊢
  have hSt := Lib.hid (fun (W : World) (hW : Keeps Nil w3 W) (kind : Int) => struck56 (hN3.keeps hW (fun _ _ h => h)) hF3 op kind (d : Int) (n : Int))
  have hqs := Lib.hid (fun (W : World) (hW : Keeps Nil w3 W) => (show W.cell? ⟨qb, 0, none⟩ = some (.pointer (some ⟨ab, 0, none⟩)) ∧ W.cell? ⟨qb, 2, none⟩ = some (.int .i64 (d : Nat)) ∧ W.cell? ⟨qb, 3, none⟩ = some (.int .i64 (n : Nat)) from
    ⟨hW.cell (cell_of_heap hq3 0) (fun h => h), hW.cell (cell_of_heap hq3 2) (fun h => h), hW.cell (cell_of_heap hq3 3) (fun h => h)⟩))
  obtain ⟨f0, f2, f3⟩ := hqs.out w3 (Keeps.refl _ _)
  have hN3' := Lib.hid hN3
  have hC2 := Lib.hid (hSt.out w3.drew (Keeps.refl Nil w3).drew 3)
  obtain ⟨s2, hs2⟩ : ∃ b, A.struck op 3 d n = b := ⟨_, rfl⟩
  obtain ⟨s6, hs6⟩ : ∃ b, A.struck op 6 d n = b := ⟨_, rfl⟩
  have hs6x := Lib.hid (show (A.setB d n (A.B d n).wear).struck op 6 d n = s6 from hs6)
  rw [show (A.setB d n (A.B d n).wear).struck op 3 d n = s2 from hs2] at hC2
  have hbad2 := hbad'.out
  unfold Nd.badP at hbad2
  rw [hs2, hs6] at hbad2
  clear hN3 hq3 hF3 hs2 hs6
  cases s2 with
  | true =>
    obtain rfl : bad = true := by rw [← hbad2]; rfl
    clear hbad2
    refine wp_region_held_drew (S := fun W => W.cell? ⟨qb, 0, none⟩ = some (.pointer (some ⟨ab, 0, none⟩)) ∧ W.cell? ⟨qb, 2, none⟩ = some (.int .i64 (d : Nat)) ∧ W.cell? ⟨qb, 3, none⟩ = some (.int .i64 (n : Nat))) (by kernel_rfl) ?q1a (fun hHeld => ?q1b)
    case q1a => (try dsimp only); first | exact ⟨f0, f2, f3⟩ | exact hqs.out _ ((Keeps.refl Nil w3).drew.trans hk9'.out)
    case q1b =>
      refine wpAnyH_take (i := 0) (oi := _) (v := ?q1_1v) rfl (by kernel_rfl) (by kernel_rfl) (by kernel_rfl) (fun _ _ _ h => h) (Or.inl ⟨by rfl, ?q1_1y⟩) (by assumption) ?q1_1r
      case q1_1y => (intro w0 hSw; (try dsimp only at hSw); go_simp; try (with_reducible rfl))
      case q1_1r =>
        simp only [Act.put, List.getElem_toArray, List.getElem_cons_zero, List.setIfInBounds_toArray, List.set_cons_zero, List.set_cons_succ]
        refine wpAnyH_take (i := 1) (oi := _) (v := ?q1_2v) rfl (by kernel_rfl) (by kernel_rfl) (by kernel_rfl) (fun _ _ _ h => h) (Or.inl ⟨by rfl, ?q1_2y⟩) (by assumption) ?q1_2r
        case q1_2y => (intro w0 hSw; (try dsimp only at hSw); go_simp; try (with_reducible rfl))
        case q1_2r =>
          simp only [Act.put, List.getElem_toArray, List.getElem_cons_succ, List.getElem_cons_zero, List.setIfInBounds_toArray, List.set_cons_zero, List.set_cons_succ]
          refine wpAnyH_take (i := 2) (oi := _) (v := ?q1_3v) rfl (by kernel_rfl) (by kernel_rfl) (by kernel_rfl) (fun _ _ _ h => h) (Or.inl ⟨by rfl, ?q1_3y⟩) (by assumption) ?q1_3r
          case q1_3y => (intro w0 hSw; (try dsimp only at hSw); go_simp; try (with_reducible rfl))
          case q1_3r =>
            simp only [Act.put, List.getElem_toArray, List.getElem_cons_succ, List.getElem_cons_zero, List.setIfInBounds_toArray, List.set_cons_zero, List.set_cons_succ]
            refine wpAnyH_take (i := 3) (oi := _) (v := ?q1_4v) rfl (by kernel_rfl) (by kernel_rfl) (by kernel_rfl) (fun _ _ _ h => h) (Or.inl ⟨by rfl, ?q1_4y⟩) (by assumption) ?q1_4r
            case q1_4y => (intro w0 hSw; (try dsimp only at hSw); go_simp; try (with_reducible rfl))
            case q1_4r =>
              simp only [Act.put, List.getElem_toArray, List.getElem_cons_succ, List.getElem_cons_zero, List.setIfInBounds_toArray, List.set_cons_zero, List.set_cons_succ]
              refine wpAnyH_take (i := 4) (oi := _) (v := ?q1_5v) rfl (by kernel_rfl) (by kernel_rfl) (by kernel_rfl) (fun _ _ _ h => h) (Or.inl ⟨by rfl, ?q1_5y⟩) (by assumption) ?q1_5r
              case q1_5y => (intro w0 hSw; (try dsimp only at hSw); go_simp; try (with_reducible rfl))
              case q1_5r =>
                simp only [Act.put, List.getElem_toArray, List.getElem_cons_succ, List.getElem_cons_zero, List.setIfInBounds_toArray, List.set_cons_zero, List.set_cons_succ]
                refine wpAnyH_take (i := 5) (oi := _) (v := ?q1_6v) rfl (by kernel_rfl) (by kernel_rfl) (by kernel_rfl) (fun _ _ _ h => h) (Or.inl ⟨by rfl, ?q1_6y⟩) (by assumption) ?q1_6r
                case q1_6y => (intro w0 hSw; (try dsimp only at hSw); go_simp; try (with_reducible rfl))
                case q1_6r =>
                  simp only [Act.put, List.getElem_toArray, List.getElem_cons_succ, List.getElem_cons_zero, List.setIfInBounds_toArray, List.set_cons_zero, List.set_cons_succ]
                  refine wpAnyH_take (i := 6) (oi := _) (v := ?q1_7v) rfl (by kernel_rfl) (by kernel_rfl) (by kernel_rfl) (fun _ _ _ h => h) (Or.inl ⟨by rfl, ?q1_7y⟩) (by assumption) ?q1_7r
                  case q1_7y => (intro w0 hSw; (try dsimp only at hSw); go_simp; try (with_reducible rfl))
                  case q1_7r =>
                    simp only [Act.put, List.getElem_toArray, List.getElem_cons_succ, List.getElem_cons_zero, List.setIfInBounds_toArray, List.set_cons_zero, List.set_cons_succ]
                    refine wpAnyH_take (i := 7) (oi := _) (v := ?q1_8v) rfl (by kernel_rfl) (by kernel_rfl) (by kernel_rfl) (fun _ _ _ h => h) (Or.inl ⟨by rfl, ?q1_8y⟩) (by assumption) ?q1_8r
                    case q1_8y => (intro w0 hSw; (try dsimp only at hSw); go_simp; try (with_reducible rfl))
                    case q1_8r =>
                      simp only [Act.put, List.getElem_toArray, List.getElem_cons_succ, List.getElem_cons_zero, List.setIfInBounds_toArray, List.set_cons_zero, List.set_cons_succ]
                      refine wpAnyH_take (i := 8) (oi := _) (v := ?q1_9v) rfl (by kernel_rfl) (by kernel_rfl) (by kernel_rfl) (fun _ _ _ h => h) (Or.inl ⟨by rfl, ?q1_9y⟩) (by assumption) ?q1_9r
                      case q1_9y => (intro w0 hSw; (try dsimp only at hSw); go_simp; try (with_reducible rfl))
                      case q1_9r =>
                        simp only [Act.put, List.getElem_toArray, List.getElem_cons_succ, List.getElem_cons_zero, List.setIfInBounds_toArray, List.set_cons_zero, List.set_cons_succ]
                        refine wpAnyH_take (i := 9) (oi := _) (v := ?q1_10v) rfl (by kernel_rfl) (by kernel_rfl) (by kernel_rfl) (fun _ _ _ h => h) (Or.inl ⟨by rfl, ?q1_10y⟩) (by assumption) ?q1_10r
                        case q1_10y => (intro w0 hSw; (try dsimp only at hSw); go_simp; try (with_reducible rfl))
                        case q1_10r =>
                          simp only [Act.put, List.getElem_toArray, List.getElem_cons_succ, List.getElem_cons_zero, List.setIfInBounds_toArray, List.set_cons_zero, List.set_cons_succ]
                          refine wpAnyH_take (i := 10) (oi := _) (v := ?q1_11v) rfl (by kernel_rfl) (by kernel_rfl) (by kernel_rfl) (fun _ _ _ h => h) (Or.inl ⟨by rfl, ?q1_11y⟩) (by assumption) ?q1_11r
                          case q1_11y => (intro w0 hSw; (try dsimp only at hSw); go_simp; try (with_reducible rfl))
                          case q1_11r =>
                            simp only [Act.put, List.getElem_toArray, List.getElem_cons_succ, List.getElem_cons_zero, List.setIfInBounds_toArray, List.set_cons_zero, List.set_cons_succ]
                            refine wpAnyH_take (i := 11) (oi := _) (v := ?q1_12v) rfl (by kernel_rfl) (by kernel_rfl) (by kernel_rfl) (fun _ _ _ h => h) (Or.inl ⟨by rfl, ?q1_12y⟩) (by assumption) ?q1_12r
                            case q1_12y => (intro w0 hSw; (try dsimp only at hSw); go_simp; try (with_reducible rfl))
                            case q1_12r =>
                              simp only [Act.put, List.getElem_toArray, List.getElem_cons_succ, List.getElem_cons_zero, List.setIfInBounds_toArray, List.set_cons_zero, List.set_cons_succ]
                              refine wpAnyH_take (i := 12) (oi := _) (v := ?q1_13v) rfl (by kernel_rfl) (by kernel_rfl) (by kernel_rfl) (fun _ _ _ h => h) (Or.inl ⟨by rfl, ?q1_13y⟩) (by assumption) ?q1_13r
                              case q1_13y => (intro w0 hSw; (try dsimp only at hSw); go_simp; try (with_reducible rfl))
                              case q1_13r =>
                                simp only [Act.put, List.getElem_toArray, List.getElem_cons_succ, List.getElem_cons_zero, List.setIfInBounds_toArray, List.set_cons_zero, List.set_cons_succ]
                                refine wpAnyH_ready (rs := [13]) (by kernel_rfl) (by simp) ?q1_14g
                                case q1_14g =>
                                  refine AllReadyH.cons (o := _) rfl (fun K hK => ?q1_14k) AllReadyH.nil
                                  case q1_14k =>
                                    go_simp
                                    (refine (hC2.out).mono ?_; rintro e w9 ⟨rfl, hk9⟩; have hk9' := Lib.hid hk9; clear hk9)
                                    refine hK.out _ _ ?q1_14s (fun hHeld => ?q1_14t)
                                    case q1_14s => (try dsimp only); first | exact ⟨f0, f2, f3⟩ | exact hqs.out _ ((Keeps.refl Nil w3).drew.trans hk9'.out)
                                    case q1_14t =>
                                      clear hK K
                                      try simp only [Act.put, List.getElem_toArray, List.getElem_cons_succ, List.getElem_cons_zero, List.setIfInBounds_toArray, List.set_cons_zero, List.set_cons_succ]
                                      refine wpAnyH_take (i := 14) (oi := _) (v := ?q1_15v) rfl (by kernel_rfl) (by kernel_rfl) (by kernel_rfl) (fun _ _ _ h => h) (Or.inl ⟨by rfl, ?q1_15y⟩) (by assumption) ?q1_15r
                                      case q1_15y => (intro w0 hSw; (try dsimp only at hSw); go_simp; try (with_reducible rfl))
                                      case q1_15r =>
                                        simp only [Act.put, List.getElem_toArray, List.getElem_cons_succ, List.getElem_cons_zero, List.setIfInBounds_toArray, List.set_cons_zero, List.set_cons_succ]
                                        refine wpAnyH_take (i := 15) (oi := _) (v := undef) rfl (by kernel_rfl) (by kernel_rfl) (by kernel_rfl) (fun _ _ _ h => h) (Or.inr ⟨by rfl, rfl⟩) (by assumption) ?q1_16r
                                        case q1_16r =>
                                          simp only [Act.put, List.getElem_toArray, List.getElem_cons_succ, List.getElem_cons_zero, List.setIfInBounds_toArray, List.set_cons_zero, List.set_cons_succ]
                                          refine wpAnyH_take (i := 16) (oi := _) (v := undef) rfl (by kernel_rfl) (by kernel_rfl) (by kernel_rfl) (fun _ _ _ h => h) (Or.inr ⟨by rfl, rfl⟩) (by assumption) ?q1_17r
                                          case q1_17r =>
                                            simp only [Act.put, List.getElem_toArray, List.getElem_cons_succ, List.getElem_cons_zero, List.setIfInBounds_toArray, List.set_cons_zero, List.set_cons_succ]
                                            refine wpAnyH_take (i := 17) (oi := _) (v := undef) rfl (by kernel_rfl) (by kernel_rfl) (by kernel_rfl) (fun _ _ _ h => h) (Or.inr ⟨by rfl, rfl⟩) (by assumption) ?q1_18r
                                            case q1_18r =>
                                              simp only [Act.put, List.getElem_toArray, List.getElem_cons_succ, List.getElem_cons_zero, List.setIfInBounds_toArray, List.set_cons_zero, List.set_cons_succ]
                                              refine wpAnyH_take (i := 18) (oi := _) (v := undef) rfl (by kernel_rfl) (by kernel_rfl) (by kernel_rfl) (fun _ _ _ h => h) (Or.inr ⟨by rfl, rfl⟩) (by assumption) ?q1_19r
                                              case q1_19r =>
                                                simp only [Act.put, List.getElem_toArray, List.getElem_cons_succ, List.getElem_cons_zero, List.setIfInBounds_toArray, List.set_cons_zero, List.set_cons_succ]
                                                refine wpAnyH_take (i := 19) (oi := _) (v := undef) rfl (by kernel_rfl) (by kernel_rfl) (by kernel_rfl) (fun _ _ _ h => h) (Or.inr ⟨by rfl, rfl⟩) (by assumption) ?q1_20r
                                                case q1_20r =>
                                                  simp only [Act.put, List.getElem_toArray, List.getElem_cons_succ, List.getElem_cons_zero, List.setIfInBounds_toArray, List.set_cons_zero, List.set_cons_succ]
                                                  refine wpAnyH_take (i := 20) (oi := _) (v := undef) rfl (by kernel_rfl) (by kernel_rfl) (by kernel_rfl) (fun _ _ _ h => h) (Or.inr ⟨by rfl, rfl⟩) (by assumption) ?q1_21r
                                                  case q1_21r =>
                                                    simp only [Act.put, List.getElem_toArray, List.getElem_cons_succ, List.getElem_cons_zero, List.setIfInBounds_toArray, List.set_cons_zero, List.set_cons_succ]
                                                    refine wpAnyH_take (i := 21) (oi := _) (v := undef) rfl (by kernel_rfl) (by kernel_rfl) (by kernel_rfl) (fun _ _ _ h => h) (Or.inr ⟨by rfl, rfl⟩) (by assumption) ?q1_22r
                                                    case q1_22r =>
                                                      simp only [Act.put, List.getElem_toArray, List.getElem_cons_succ, List.getElem_cons_zero, List.setIfInBounds_toArray, List.set_cons_zero, List.set_cons_succ]
                                                      refine wpAnyH_take (i := 22) (oi := _) (v := undef) rfl (by kernel_rfl) (by kernel_rfl) (by kernel_rfl) (fun _ _ _ h => h) (Or.inr ⟨by rfl, rfl⟩) (by assumption) ?q1_23r
                                                      case q1_23r =>
                                                        simp only [Act.put, List.getElem_toArray, List.getElem_cons_succ, List.getElem_cons_zero, List.setIfInBounds_toArray, List.set_cons_zero, List.set_cons_succ]
                                                        refine wpAnyH_take (i := 23) (oi := _) (v := undef) rfl (by kernel_rfl) (by kernel_rfl) (by kernel_rfl) (fun _ _ _ h => h) (Or.inr ⟨by rfl, rfl⟩) (by assumption) ?q1_24r
                                                        case q1_24r =>
                                                          simp only [Act.put, List.getElem_toArray, List.getElem_cons_succ, List.getElem_cons_zero, List.setIfInBounds_toArray, List.set_cons_zero, List.set_cons_succ]
                                                          refine wpAnyH_take (i := 24) (oi := _) (v := undef) rfl (by kernel_rfl) (by kernel_rfl) (by kernel_rfl) (fun _ _ _ h => h) (Or.inr ⟨by rfl, rfl⟩) (by assumption) ?q1_25r
                                                          case q1_25r =>
                                                            simp only [Act.put, List.getElem_toArray, List.getElem_cons_succ, List.getElem_cons_zero, List.setIfInBounds_toArray, List.set_cons_zero, List.set_cons_succ]
                                                            refine wpAnyH_take (i := 25) (oi := _) (v := undef) rfl (by kernel_rfl) (by kernel_rfl) (by kernel_rfl) (fun _ _ _ h => h) (Or.inr ⟨by rfl, rfl⟩) (by assumption) ?q1_26r
                                                            case q1_26r =>
                                                              simp only [Act.put, List.getElem_toArray, List.getElem_cons_succ, List.getElem_cons_zero, List.setIfInBounds_toArray, List.set_cons_zero, List.set_cons_succ]
                                                              refine wpAnyH_take (i := 26) (oi := _) (v := undef) rfl (by kernel_rfl) (by kernel_rfl) (by kernel_rfl) (fun _ _ _ h => h) (Or.inr ⟨by rfl, rfl⟩) (by assumption) ?q1_27r
                                                              case q1_27r =>
                                                                simp only [Act.put, List.getElem_toArray, List.getElem_cons_succ, List.getElem_cons_zero, List.setIfInBounds_toArray, List.set_cons_zero, List.set_cons_succ]
                                                                refine wpAnyH_take (i := 27) (oi := _) (v := undef) rfl (by kernel_rfl) (by kernel_rfl) (by kernel_rfl) (fun _ _ _ h => h) (Or.inr ⟨by rfl, rfl⟩) (by assumption) ?q1_28r
                                                                case q1_28r =>
                                                                  simp only [Act.put, List.getElem_toArray, List.getElem_cons_succ, List.getElem_cons_zero, List.setIfInBounds_toArray, List.set_cons_zero, List.set_cons_succ]
                                                                  refine wpAnyH_take (i := 28) (oi := _) (v := undef) rfl (by kernel_rfl) (by kernel_rfl) (by kernel_rfl) (fun _ _ _ h => h) (Or.inr ⟨by rfl, rfl⟩) (by assumption) ?q1_29r
                                                                  case q1_29r =>
                                                                    simp only [Act.put, List.getElem_toArray, List.getElem_cons_succ, List.getElem_cons_zero, List.setIfInBounds_toArray, List.set_cons_zero, List.set_cons_succ]
                                                                    refine wpAnyH_take (i := 29) (oi := _) (v := ?q1_30v) rfl (by kernel_rfl) (by kernel_rfl) (by kernel_rfl) (fun _ _ _ h => h) (Or.inl ⟨by rfl, ?q1_30y⟩) (by assumption) ?q1_30r
                                                                    case q1_30y => (intro w0 hSw; (try dsimp only at hSw); go_simp; try (with_reducible rfl))
                                                                    case q1_30r =>
                                                                      simp only [Act.put, List.getElem_toArray, List.getElem_cons_succ, List.getElem_cons_zero, List.setIfInBounds_toArray, List.set_cons_zero, List.set_cons_succ]
                                                                      refine wpAnyH_ready (rs := [30]) (by kernel_rfl) (by simp) ?q1_31g
                                                                      case q1_31g =>
                                                                        refine AllReadyH.cons (o := _) rfl (fun K hK => ?q1_31k) AllReadyH.nil
                                                                        case q1_31k =>
                                                                          go_simp
                                                                          refine hK.out _ _ ?q1_31s (fun hHeld => ?q1_31t)
                                                                          case q1_31s => (try dsimp only); first | exact ⟨f0, f2, f3⟩ | exact hqs.out _ ((Keeps.refl Nil w3).drew.trans hk9'.out)
                                                                          case q1_31t =>
                                                                            clear hK K
                                                                            try simp only [Act.put, List.getElem_toArray, List.getElem_cons_succ, List.getElem_cons_zero, List.setIfInBounds_toArray, List.set_cons_zero, List.set_cons_succ]
                                                                            refine wpAnyH_done (by kernel_rfl) ?q1z _
                                                                            case q1z =>
                                                                              go_wp2_with fail
                                                                              go_ret
                                                                              rw [← hA2'.out]
                                                                              have hk5 := (Keeps.refl Nil w3).drew.trans hk9'.out
                                                                              exact ⟨rfl, L, O, hN3'.out.keeps hk5 (fun _ _ h => h), kO.out.trans (hk5.mono (fun _ h => h.elim)), fun k hk => .inl hk⟩
  | false =>
    obtain rfl : bad = s6 := by rw [← hbad2]; rfl
    clear hbad2
    refine wp_region_held_drew (S := fun W => W.cell? ⟨qb, 0, none⟩ = some (.pointer (some ⟨ab, 0, none⟩)) ∧ W.cell? ⟨qb, 2, none⟩ = some (.int .i64 (d : Nat)) ∧ W.cell? ⟨qb, 3, none⟩ = some (.int .i64 (n : Nat))) (by kernel_rfl) ?q2a (fun hHeld => ?q2b)
    case q2a => (try dsimp only); first | exact ⟨f0, f2, f3⟩ | exact hqs.out _ ((Keeps.refl Nil w3).drew.trans hk9'.out) | exact hqs.out _ (((Keeps.refl Nil w3).drew.trans hk9'.out).trans hk8'.out)
    case q2b =>
      refine wpAnyH_take (i := 0) (oi := _) (v := ?q2_1v) rfl (by kernel_rfl) (by kernel_rfl) (by kernel_rfl) (fun _ _ _ h => h) (Or.inl ⟨by rfl, ?q2_1y⟩) (by assumption) ?q2_1r
      case q2_1y => (intro w0 hSw; (try dsimp only at hSw); go_simp; try (with_reducible rfl))
      case q2_1r =>
        simp only [Act.put, List.getElem_toArray, List.getElem_cons_zero, List.setIfInBounds_toArray, List.set_cons_zero, List.set_cons_succ]
        refine wpAnyH_take (i := 1) (oi := _) (v := ?q2_2v) rfl (by kernel_rfl) (by kernel_rfl) (by kernel_rfl) (fun _ _ _ h => h) (Or.inl ⟨by rfl, ?q2_2y⟩) (by assumption) ?q2_2r
        case q2_2y => (intro w0 hSw; (try dsimp only at hSw); go_simp; try (with_reducible rfl))
        case q2_2r =>
          simp only [Act.put, List.getElem_toArray, List.getElem_cons_succ, List.getElem_cons_zero, List.setIfInBounds_toArray, List.set_cons_zero, List.set_cons_succ]
          refine wpAnyH_take (i := 2) (oi := _) (v := ?q2_3v) rfl (by kernel_rfl) (by kernel_rfl) (by kernel_rfl) (fun _ _ _ h => h) (Or.inl ⟨by rfl, ?q2_3y⟩) (by assumption) ?q2_3r
          case q2_3y => (intro w0 hSw; (try dsimp only at hSw); go_simp; try (with_reducible rfl))
          case q2_3r =>
            simp only [Act.put, List.getElem_toArray, List.getElem_cons_succ, List.getElem_cons_zero, List.setIfInBounds_toArray, List.set_cons_zero, List.set_cons_succ]
            refine wpAnyH_take (i := 3) (oi := _) (v := ?q2_4v) rfl (by kernel_rfl) (by kernel_rfl) (by kernel_rfl) (fun _ _ _ h => h) (Or.inl ⟨by rfl, ?q2_4y⟩) (by assumption) ?q2_4r
            case q2_4y => (intro w0 hSw; (try dsimp only at hSw); go_simp; try (with_reducible rfl))
            case q2_4r =>
              simp only [Act.put, List.getElem_toArray, List.getElem_cons_succ, List.getElem_cons_zero, List.setIfInBounds_toArray, List.set_cons_zero, List.set_cons_succ]
              refine wpAnyH_take (i := 4) (oi := _) (v := ?q2_5v) rfl (by kernel_rfl) (by kernel_rfl) (by kernel_rfl) (fun _ _ _ h => h) (Or.inl ⟨by rfl, ?q2_5y⟩) (by assumption) ?q2_5r
              case q2_5y => (intro w0 hSw; (try dsimp only at hSw); go_simp; try (with_reducible rfl))
              case q2_5r =>
                simp only [Act.put, List.getElem_toArray, List.getElem_cons_succ, List.getElem_cons_zero, List.setIfInBounds_toArray, List.set_cons_zero, List.set_cons_succ]
                refine wpAnyH_take (i := 5) (oi := _) (v := ?q2_6v) rfl (by kernel_rfl) (by kernel_rfl) (by kernel_rfl) (fun _ _ _ h => h) (Or.inl ⟨by rfl, ?q2_6y⟩) (by assumption) ?q2_6r
                case q2_6y => (intro w0 hSw; (try dsimp only at hSw); go_simp; try (with_reducible rfl))
                case q2_6r =>
                  simp only [Act.put, List.getElem_toArray, List.getElem_cons_succ, List.getElem_cons_zero, List.setIfInBounds_toArray, List.set_cons_zero, List.set_cons_succ]
                  refine wpAnyH_take (i := 6) (oi := _) (v := ?q2_7v) rfl (by kernel_rfl) (by kernel_rfl) (by kernel_rfl) (fun _ _ _ h => h) (Or.inl ⟨by rfl, ?q2_7y⟩) (by assumption) ?q2_7r
                  case q2_7y => (intro w0 hSw; (try dsimp only at hSw); go_simp; try (with_reducible rfl))
                  case q2_7r =>
                    simp only [Act.put, List.getElem_toArray, List.getElem_cons_succ, List.getElem_cons_zero, List.setIfInBounds_toArray, List.set_cons_zero, List.set_cons_succ]
                    refine wpAnyH_take (i := 7) (oi := _) (v := ?q2_8v) rfl (by kernel_rfl) (by kernel_rfl) (by kernel_rfl) (fun _ _ _ h => h) (Or.inl ⟨by rfl, ?q2_8y⟩) (by assumption) ?q2_8r
                    case q2_8y => (intro w0 hSw; (try dsimp only at hSw); go_simp; try (with_reducible rfl))
                    case q2_8r =>
                      simp only [Act.put, List.getElem_toArray, List.getElem_cons_succ, List.getElem_cons_zero, List.setIfInBounds_toArray, List.set_cons_zero, List.set_cons_succ]
                      refine wpAnyH_take (i := 8) (oi := _) (v := ?q2_9v) rfl (by kernel_rfl) (by kernel_rfl) (by kernel_rfl) (fun _ _ _ h => h) (Or.inl ⟨by rfl, ?q2_9y⟩) (by assumption) ?q2_9r
                      case q2_9y => (intro w0 hSw; (try dsimp only at hSw); go_simp; try (with_reducible rfl))
                      case q2_9r =>
                        simp only [Act.put, List.getElem_toArray, List.getElem_cons_succ, List.getElem_cons_zero, List.setIfInBounds_toArray, List.set_cons_zero, List.set_cons_succ]
                        refine wpAnyH_take (i := 9) (oi := _) (v := ?q2_10v) rfl (by kernel_rfl) (by kernel_rfl) (by kernel_rfl) (fun _ _ _ h => h) (Or.inl ⟨by rfl, ?q2_10y⟩) (by assumption) ?q2_10r
                        case q2_10y => (intro w0 hSw; (try dsimp only at hSw); go_simp; try (with_reducible rfl))
                        case q2_10r =>
                          simp only [Act.put, List.getElem_toArray, List.getElem_cons_succ, List.getElem_cons_zero, List.setIfInBounds_toArray, List.set_cons_zero, List.set_cons_succ]
                          refine wpAnyH_take (i := 10) (oi := _) (v := ?q2_11v) rfl (by kernel_rfl) (by kernel_rfl) (by kernel_rfl) (fun _ _ _ h => h) (Or.inl ⟨by rfl, ?q2_11y⟩) (by assumption) ?q2_11r
                          case q2_11y => (intro w0 hSw; (try dsimp only at hSw); go_simp; try (with_reducible rfl))
                          case q2_11r =>
                            simp only [Act.put, List.getElem_toArray, List.getElem_cons_succ, List.getElem_cons_zero, List.setIfInBounds_toArray, List.set_cons_zero, List.set_cons_succ]
                            refine wpAnyH_take (i := 11) (oi := _) (v := ?q2_12v) rfl (by kernel_rfl) (by kernel_rfl) (by kernel_rfl) (fun _ _ _ h => h) (Or.inl ⟨by rfl, ?q2_12y⟩) (by assumption) ?q2_12r
                            case q2_12y => (intro w0 hSw; (try dsimp only at hSw); go_simp; try (with_reducible rfl))
                            case q2_12r =>
                              simp only [Act.put, List.getElem_toArray, List.getElem_cons_succ, List.getElem_cons_zero, List.setIfInBounds_toArray, List.set_cons_zero, List.set_cons_succ]
                              refine wpAnyH_take (i := 12) (oi := _) (v := ?q2_13v) rfl (by kernel_rfl) (by kernel_rfl) (by kernel_rfl) (fun _ _ _ h => h) (Or.inl ⟨by rfl, ?q2_13y⟩) (by assumption) ?q2_13r
                              case q2_13y => (intro w0 hSw; (try dsimp only at hSw); go_simp; try (with_reducible rfl))
                              case q2_13r =>
                                simp only [Act.put, List.getElem_toArray, List.getElem_cons_succ, List.getElem_cons_zero, List.setIfInBounds_toArray, List.set_cons_zero, List.set_cons_succ]
                                refine wpAnyH_ready (rs := [13]) (by kernel_rfl) (by simp) ?q2_14g
                                case q2_14g =>
                                  refine AllReadyH.cons (o := _) rfl (fun K hK => ?q2_14k) AllReadyH.nil
                                  case q2_14k =>
                                    go_simp
                                    (first | ((with_reducible refine (hC2.out).mono ?_); rintro e w9 ⟨rfl, hk9⟩; have hk9' := Lib.hid hk9; have hC6 := Lib.hid (hSt.out w9 ((Keeps.refl Nil w3).drew.trans hk9) 6); rw [hs6x.out] at hC6; clear hk9) | ((with_reducible refine (hC6.out).mono ?_); rintro e w8 ⟨rfl, hk8⟩; have hk8' := Lib.hid hk8; clear hk8))
                                    refine hK.out _ _ ?q2_14s (fun hHeld => ?q2_14t)
                                    case q2_14s => (try dsimp only); first | exact ⟨f0, f2, f3⟩ | exact hqs.out _ ((Keeps.refl Nil w3).drew.trans hk9'.out) | exact hqs.out _ (((Keeps.refl Nil w3).drew.trans hk9'.out).trans hk8'.out)
                                    case q2_14t =>
                                      clear hK K
                                      try simp only [Act.put, List.getElem_toArray, List.getElem_cons_succ, List.getElem_cons_zero, List.setIfInBounds_toArray, List.set_cons_zero, List.set_cons_succ]
                                      refine wpAnyH_take (i := 14) (oi := _) (v := ?q2_15v) rfl (by kernel_rfl) (by kernel_rfl) (by kernel_rfl) (fun _ _ _ h => h) (Or.inl ⟨by rfl, ?q2_15y⟩) (by assumption) ?q2_15r
                                      case q2_15y => (intro w0 hSw; (try dsimp only at hSw); go_simp; try (with_reducible rfl))
                                      case q2_15r =>
                                        simp only [Act.put, List.getElem_toArray, List.getElem_cons_succ, List.getElem_cons_zero, List.setIfInBounds_toArray, List.set_cons_zero, List.set_cons_succ]
                                        refine wpAnyH_take (i := 15) (oi := _) (v := ?q2_16v) rfl (by kernel_rfl) (by kernel_rfl) (by kernel_rfl) (fun _ _ _ h => h) (Or.inl ⟨by rfl, ?q2_16y⟩) (by assumption) ?q2_16r
                                        case q2_16y => (intro w0 hSw; (try dsimp only at hSw); go_simp; try (with_reducible rfl))
                                        case q2_16r =>
                                          simp only [Act.put, List.getElem_toArray, List.getElem_cons_succ, List.getElem_cons_zero, List.setIfInBounds_toArray, List.set_cons_zero, List.set_cons_succ]
                                          refine wpAnyH_take (i := 16) (oi := _) (v := ?q2_17v) rfl (by kernel_rfl) (by kernel_rfl) (by kernel_rfl) (fun _ _ _ h => h) (Or.inl ⟨by rfl, ?q2_17y⟩) (by assumption) ?q2_17r
                                          case q2_17y => (intro w0 hSw; (try dsimp only at hSw); go_simp; try (with_reducible rfl))
                                          case q2_17r =>
                                            simp only [Act.put, List.getElem_toArray, List.getElem_cons_succ, List.getElem_cons_zero, List.setIfInBounds_toArray, List.set_cons_zero, List.set_cons_succ]
                                            refine wpAnyH_take (i := 17) (oi := _) (v := ?q2_18v) rfl (by kernel_rfl) (by kernel_rfl) (by kernel_rfl) (fun _ _ _ h => h) (Or.inl ⟨by rfl, ?q2_18y⟩) (by assumption) ?q2_18r
                                            case q2_18y => (intro w0 hSw; (try dsimp only at hSw); go_simp; try (with_reducible rfl))
                                            case q2_18r =>
                                              simp only [Act.put, List.getElem_toArray, List.getElem_cons_succ, List.getElem_cons_zero, List.setIfInBounds_toArray, List.set_cons_zero, List.set_cons_succ]
                                              refine wpAnyH_take (i := 18) (oi := _) (v := ?q2_19v) rfl (by kernel_rfl) (by kernel_rfl) (by kernel_rfl) (fun _ _ _ h => h) (Or.inl ⟨by rfl, ?q2_19y⟩) (by assumption) ?q2_19r
                                              case q2_19y => (intro w0 hSw; (try dsimp only at hSw); go_simp; try (with_reducible rfl))
                                              case q2_19r =>
                                                simp only [Act.put, List.getElem_toArray, List.getElem_cons_succ, List.getElem_cons_zero, List.setIfInBounds_toArray, List.set_cons_zero, List.set_cons_succ]
                                                refine wpAnyH_take (i := 19) (oi := _) (v := ?q2_20v) rfl (by kernel_rfl) (by kernel_rfl) (by kernel_rfl) (fun _ _ _ h => h) (Or.inl ⟨by rfl, ?q2_20y⟩) (by assumption) ?q2_20r
                                                case q2_20y => (intro w0 hSw; (try dsimp only at hSw); go_simp; try (with_reducible rfl))
                                                case q2_20r =>
                                                  simp only [Act.put, List.getElem_toArray, List.getElem_cons_succ, List.getElem_cons_zero, List.setIfInBounds_toArray, List.set_cons_zero, List.set_cons_succ]
                                                  refine wpAnyH_take (i := 20) (oi := _) (v := ?q2_21v) rfl (by kernel_rfl) (by kernel_rfl) (by kernel_rfl) (fun _ _ _ h => h) (Or.inl ⟨by rfl, ?q2_21y⟩) (by assumption) ?q2_21r
                                                  case q2_21y => (intro w0 hSw; (try dsimp only at hSw); go_simp; try (with_reducible rfl))
                                                  case q2_21r =>
                                                    simp only [Act.put, List.getElem_toArray, List.getElem_cons_succ, List.getElem_cons_zero, List.setIfInBounds_toArray, List.set_cons_zero, List.set_cons_succ]
                                                    refine wpAnyH_take (i := 21) (oi := _) (v := ?q2_22v) rfl (by kernel_rfl) (by kernel_rfl) (by kernel_rfl) (fun _ _ _ h => h) (Or.inl ⟨by rfl, ?q2_22y⟩) (by assumption) ?q2_22r
                                                    case q2_22y => (intro w0 hSw; (try dsimp only at hSw); go_simp; try (with_reducible rfl))
                                                    case q2_22r =>
                                                      simp only [Act.put, List.getElem_toArray, List.getElem_cons_succ, List.getElem_cons_zero, List.setIfInBounds_toArray, List.set_cons_zero, List.set_cons_succ]
                                                      refine wpAnyH_take (i := 22) (oi := _) (v := ?q2_23v) rfl (by kernel_rfl) (by kernel_rfl) (by kernel_rfl) (fun _ _ _ h => h) (Or.inl ⟨by rfl, ?q2_23y⟩) (by assumption) ?q2_23r
                                                      case q2_23y => (intro w0 hSw; (try dsimp only at hSw); go_simp; try (with_reducible rfl))
                                                      case q2_23r =>
                                                        simp only [Act.put, List.getElem_toArray, List.getElem_cons_succ, List.getElem_cons_zero, List.setIfInBounds_toArray, List.set_cons_zero, List.set_cons_succ]
                                                        refine wpAnyH_take (i := 23) (oi := _) (v := ?q2_24v) rfl (by kernel_rfl) (by kernel_rfl) (by kernel_rfl) (fun _ _ _ h => h) (Or.inl ⟨by rfl, ?q2_24y⟩) (by assumption) ?q2_24r
                                                        case q2_24y => (intro w0 hSw; (try dsimp only at hSw); go_simp; try (with_reducible rfl))
                                                        case q2_24r =>
                                                          simp only [Act.put, List.getElem_toArray, List.getElem_cons_succ, List.getElem_cons_zero, List.setIfInBounds_toArray, List.set_cons_zero, List.set_cons_succ]
                                                          refine wpAnyH_take (i := 24) (oi := _) (v := ?q2_25v) rfl (by kernel_rfl) (by kernel_rfl) (by kernel_rfl) (fun _ _ _ h => h) (Or.inl ⟨by rfl, ?q2_25y⟩) (by assumption) ?q2_25r
                                                          case q2_25y => (intro w0 hSw; (try dsimp only at hSw); go_simp; try (with_reducible rfl))
                                                          case q2_25r =>
                                                            simp only [Act.put, List.getElem_toArray, List.getElem_cons_succ, List.getElem_cons_zero, List.setIfInBounds_toArray, List.set_cons_zero, List.set_cons_succ]
                                                            refine wpAnyH_take (i := 25) (oi := _) (v := ?q2_26v) rfl (by kernel_rfl) (by kernel_rfl) (by kernel_rfl) (fun _ _ _ h => h) (Or.inl ⟨by rfl, ?q2_26y⟩) (by assumption) ?q2_26r
                                                            case q2_26y => (intro w0 hSw; (try dsimp only at hSw); go_simp; try (with_reducible rfl))
                                                            case q2_26r =>
                                                              simp only [Act.put, List.getElem_toArray, List.getElem_cons_succ, List.getElem_cons_zero, List.setIfInBounds_toArray, List.set_cons_zero, List.set_cons_succ]
                                                              refine wpAnyH_take (i := 26) (oi := _) (v := ?q2_27v) rfl (by kernel_rfl) (by kernel_rfl) (by kernel_rfl) (fun _ _ _ h => h) (Or.inl ⟨by rfl, ?q2_27y⟩) (by assumption) ?q2_27r
                                                              case q2_27y => (intro w0 hSw; (try dsimp only at hSw); go_simp; try (with_reducible rfl))
                                                              case q2_27r =>
                                                                simp only [Act.put, List.getElem_toArray, List.getElem_cons_succ, List.getElem_cons_zero, List.setIfInBounds_toArray, List.set_cons_zero, List.set_cons_succ]
                                                                refine wpAnyH_take (i := 27) (oi := _) (v := ?q2_28v) rfl (by kernel_rfl) (by kernel_rfl) (by kernel_rfl) (fun _ _ _ h => h) (Or.inl ⟨by rfl, ?q2_28y⟩) (by assumption) ?q2_28r
                                                                case q2_28y => (intro w0 hSw; (try dsimp only at hSw); go_simp; try (with_reducible rfl))
                                                                case q2_28r =>
                                                                  simp only [Act.put, List.getElem_toArray, List.getElem_cons_succ, List.getElem_cons_zero, List.setIfInBounds_toArray, List.set_cons_zero, List.set_cons_succ]
                                                                  refine wpAnyH_ready (rs := [28]) (by kernel_rfl) (by simp) ?q2_29g
                                                                  case q2_29g =>
                                                                    refine AllReadyH.cons (o := _) rfl (fun K hK => ?q2_29k) AllReadyH.nil
                                                                    case q2_29k =>
                                                                      go_simp
                                                                      (first | ((with_reducible refine (hC2.out).mono ?_); rintro e w9 ⟨rfl, hk9⟩; have hk9' := Lib.hid hk9; have hC6 := Lib.hid (hSt.out w9 ((Keeps.refl Nil w3).drew.trans hk9) 6); rw [hs6x.out] at hC6; clear hk9) | ((with_reducible refine (hC6.out).mono ?_); rintro e w8 ⟨rfl, hk8⟩; have hk8' := Lib.hid hk8; clear hk8))
                                                                      refine hK.out _ _ ?q2_29s (fun hHeld => ?q2_29t)
                                                                      case q2_29s => (try dsimp only); first | exact ⟨f0, f2, f3⟩ | exact hqs.out _ ((Keeps.refl Nil w3).drew.trans hk9'.out) | exact hqs.out _ (((Keeps.refl Nil w3).drew.trans hk9'.out).trans hk8'.out)
                                                                      case q2_29t =>
                                                                        clear hK K
                                                                        try simp only [Act.put, List.getElem_toArray, List.getElem_cons_succ, List.getElem_cons_zero, List.setIfInBounds_toArray, List.set_cons_zero, List.set_cons_succ]
                                                                        refine wpAnyH_take (i := 29) (oi := _) (v := ?q2_30v) rfl (by kernel_rfl) (by kernel_rfl) (by kernel_rfl) (fun _ _ _ h => h) (Or.inl ⟨by rfl, ?q2_30y⟩) (by assumption) ?q2_30r
                                                                        case q2_30y => (intro w0 hSw; (try dsimp only at hSw); go_simp; try (with_reducible rfl))
                                                                        case q2_30r =>
                                                                          simp only [Act.put, List.getElem_toArray, List.getElem_cons_succ, List.getElem_cons_zero, List.setIfInBounds_toArray, List.set_cons_zero, List.set_cons_succ]
                                                                          refine wpAnyH_ready (rs := [30]) (by kernel_rfl) (by simp) ?q2_31g
                                                                          case q2_31g =>
                                                                            refine AllReadyH.cons (o := _) rfl (fun K hK => ?q2_31k) AllReadyH.nil
                                                                            case q2_31k =>
                                                                              go_simp
                                                                              refine hK.out _ _ ?q2_31s (fun hHeld => ?q2_31t)
                                                                              case q2_31s => (try dsimp only); first | exact ⟨f0, f2, f3⟩ | exact hqs.out _ ((Keeps.refl Nil w3).drew.trans hk9'.out) | exact hqs.out _ (((Keeps.refl Nil w3).drew.trans hk9'.out).trans hk8'.out)
                                                                              case q2_31t =>
                                                                                clear hK K
                                                                                try simp only [Act.put, List.getElem_toArray, List.getElem_cons_succ, List.getElem_cons_zero, List.setIfInBounds_toArray, List.set_cons_zero, List.set_cons_succ]
                                                                                refine wpAnyH_done (by kernel_rfl) ?q2z _
                                                                                case q2z =>
                                                                                  go_wp2_with fail
                                                                                  go_ret
                                                                                  rw [← hA2'.out]
                                                                                  have hk5 := ((Keeps.refl Nil w3).drew.trans hk9'.out).trans hk8'.out
                                                                                  exact ⟨rfl, L, O, hN3'.out.keeps hk5 (fun _ _ h => h), kO.out.trans (hk5.mono (fun _ h => h.elim)), fun k hk => .inl hk⟩
end Go.Proofs.Ytglpacdenfoicaa
