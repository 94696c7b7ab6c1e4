/- nand: a page's bytes, in new memory; programming that is bad, or not -/
import Derived.Test.YtglpacdenfoicaaNdF
import Derived.StillTailTactics
namespace Go.Proofs.Ytglpacdenfoicaa
open Go.RowKit

variable {w w' : World} {ab bb bc fc : Nat} {db : Nat → Nat} {pb : Nat → Nat → Nat} {fa : Option Addr} {L : List Fx} {A A' : Nd} {O T : Nat → Prop}
theorem NdB.cellD (h : NdB w ab A bb bc db pb fa fc L O) {d n : Nat} (hd : d < A.S.dies) (hn : n < A.S.blocks) :
    w.cell? ⟨db d, n * 3, none⟩ = some (.slice (some ⟨pb d n, 0, none⟩) A.S.pages A.S.pages) ∧ w.cell? ⟨db d, n * 3 + 1, none⟩ = some (.int .i64 (A.B d n).next) ∧ w.cell? ⟨db d, n * 3 + 2, none⟩ = some (.int .i64 ((A.B d n).er : Nat)) ∧ ∀ o, w.frozen? ⟨db d, o, none⟩ = false := by
  obtain ⟨cs, h1, _, h3⟩ := h.die d hd
  obtain ⟨a, b, c⟩ := h3 n hn
  exact ⟨(cell_of_heap h1 _).trans a, (cell_of_heap h1 _).trans b, (cell_of_heap h1 _).trans c, frozen_of_heap h1⟩
theorem NdB.cellP (h : NdB w ab A bb bc db pb fa fc L O) {d n p : Nat} (hd : d < A.S.dies) (hn : n < A.S.blocks) (hp : p < A.S.pages) :
    ∃ v, w.cell? ⟨pb d n, p, none⟩ = some v ∧ PgV w O v ((A.B d n).pg p) ∧ ∀ o, w.frozen? ⟨pb d n, o, none⟩ = false := by
  obtain ⟨ps, h1, _, h3⟩ := h.pgs d n hd hn
  obtain ⟨v, a, b⟩ := h3 p hp
  exact ⟨v, (cell_of_heap h1 _).trans a, b, frozen_of_heap h1⟩
theorem NdB.cellS (h : NdB w ab A bb bc db pb fa fc L O) : w.cell? ⟨ab, 3, none⟩ = some (.int .i64 (A.S.bytes : Nat)) := h.cell 3
/-- a row of bytes, made by the call: the answer of a read -/
def NewBytes (w : World) (n : Nat) (l : List Int) (e : Ending) (w' : World) : Prop := ∃ g c, e = .returned (.slice (some ⟨g, 0, none⟩) n c) ∧ NumRow .u8 w' 5 (some ⟨g, 0, none⟩) c l ∧ Keeps Nil w w' ∧ w.heap.size ≤ g
set_option maxHeartbeats 2000000 in
set_option maxRecDepth 100000 in
theorem page33 (h : NdB w ab A bb bc db pb fa fc L O) (hok : A.Ok) {d n p : Nat} (hd : d < A.S.dies) (hn : n < A.S.blocks) (hp : p < A.S.pages) :
    Calls Try.prog 33 #[.pointer (some ⟨ab, 0, none⟩), .pointer (some ⟨db d, n * 3, none⟩), .int .i64 (p : Nat)] w (NewBytes w A.S.bytes (pgBytes A.S.bytes ((A.B d n).pg p))) := by
  obtain ⟨d0, _, _, _⟩ := h.cellD hd hn
  obtain ⟨v, hv, hP, _⟩ := h.cellP hd hn hp
  have c3 := h.cellS
  have hnil := fun (w : World) a n c => Lib.run_eql_slice_nil (P := Try.prog) w 22 5 a n c 0 0 Try.underlying22
  have hS := hok.S
  have n1 := hS.n1
  have n2 := hS.n2
  cases hq : (A.B d n).pg p with
  | none =>
    rw [hq] at hP
    have hv0 : v = .slice none 0 0 := hP
    subst hv0
    have hb : (w.alloc (.cells #[.int .u8 255] 5)).cell? ⟨w.heap.size, 0, none⟩ = some (.int .u8 255) := cell_new1 w _ _
    have hR := Lib.hid (repeat61 n1 (by omega) hb)
    have hk0 := Lib.hid ((Keeps.refl Nil w).alloc (.cells #[.int .u8 255] 5))
    have c3' := hk0.out.cell c3 (fun h => h)
    clear h hok hP hS hb hq
    go_enter Try.func33, Try.ntmps33
    go_wp2_with fail
    refine (hR.out).mono ?_
    rintro e w2 ⟨g, rfl, h1, h2, h3⟩
    have h1' := Lib.hid h1
    have h2' := Lib.hid h2
    have h3' := Lib.hid h3
    clear h1 h2 h3
    go_wp2_with fail
    go_ret
    exact ⟨g, _, rfl, h1'.out, hk0.out.trans h2'.out, Nat.le_trans hk0.out.size h3'.out⟩
  | some l =>
    rw [hq] at hP
    obtain ⟨x, c, rfl, hl, hx⟩ := hP
    have hlen := hok.pages d n p l hq
    rw [hlen] at hv
    have hC := clone60 hl.nums (cap := c) (fun e => by cases e) (by omega)
    rw [hlen] at hC
    have hC' := Lib.hid hC
    have hlen' := Lib.hid hlen
    clear h hok hS hC hl hq hlen
    go_enter Try.func33, Try.ntmps33
    go_wp2_with fail
    refine (hC'.out).mono ?_
    rintro e w2 ⟨a', c', rfl, h1, h2, h3, h4⟩
    rcases RowAt.form h1 with ⟨q1, _⟩ | ⟨g, cur, rfl, _⟩
    · exact absurd (h4.2 q1) (fun e => by cases e)
    · have h1' := Lib.hid h1
      have h2' := Lib.hid h2
      have h3' := Lib.hid (h3 g rfl)
      clear h1 h2 h3 h4
      go_wp2_with fail
      go_ret
      exact ⟨g, _, rfl, h1'.out, h2'.out, h3'.out⟩

/-! ### a programmer -/
def pgrCells (ab g o : Nat) (d n p : Nat) (xa : Option Addr) (xn xc : Nat) : Array Value := #[.pointer (some ⟨ab, 0, none⟩), .pointer (some ⟨g, o, none⟩), .int .i64 (d : Nat), .int .i64 (n : Nat), .int .i64 (p : Nat), .slice xa xn xc]
/-- what a step of an operation leaves -/
def Step (w : World) (ab bb bc : Nat) (db : Nat → Nat) (pb : Nat → Nat → Nat) (fa : Option Addr) (fc : Nat) (O : Nat → Prop) (r : Ending) (A' : Nd) (e : Ending) (w' : World) : Prop :=
  e = r ∧ ∃ L' O', NdB w' ab A' bb bc db pb fa fc L' O' ∧ Keeps O w w' ∧ ∀ k, O' k → O k ∨ w.heap.size ≤ k
def Nd.progMid (A : Nd) (op : Int) (d n p : Nat) : Nd := if A.badP op d n 2 then A.progBad d n p else A.setB d n ((A.B d n).at ((p : Int) + 1))
theorem numRow_replicate {w : World} {g n : Nat} (h : w.heap[g]? = some (.cells (List.replicate n (.int .u8 0)).toArray 5 (0, 0))) (hn : n ≤ 100000) : NumRow .u8 w 5 (some ⟨g, 0, none⟩) n (List.replicate n 0) :=
  ⟨by simp, .inr ⟨g, n, _, by simp, Nat.zero_le _, h, by simp, by unfold maxLen; omega, by simp, by simp⟩⟩
/-- a page is put into a block -/
theorem NdB.putPage (h : NdB w ab A bb bc db pb fa fc L O) {d n p x c : Nat} {l : List Int} (hd : d < A.S.dies) (hn : n < A.S.blocks) (hp : p < A.S.pages) (hx : NumRow .u8 w 5 (some ⟨x, 0, none⟩) c l) :
    NdB (w.setCell ⟨pb d n, p, none⟩ (.slice (some ⟨x, 0, none⟩) l.length c)) ab (A.setB d n (setPg (A.B d n) p l)) bb bc db pb fa fc L (fun k => O k ∨ k = x) := by
  have hk := (Keeps.refl (· = pb d n) w).setCell (p := ⟨pb d n, p, none⟩) (.inl rfl) (.slice (some ⟨x, 0, none⟩) l.length c)
  refine h.editP hd hn hk rfl rfl (fun k hk => .inl hk) (fun k hk2 => ?_) ((h.pgs d n hd hn).set hp hx (fun k hk => .inl hk) (.inr rfl))
  rcases hk2 with hk2 | hk2
  · exact Nat.lt_of_lt_of_le (h.lt k hk2) hk.size
  · rw [hk2]; exact Nat.lt_of_lt_of_le (RowAt.lt hx rfl) hk.size
theorem bad_end {w w3 w9 : World} {d n p : Nat} (h : NdB w9 ab (A.setB d n ((A.B d n).at ((p : Int) + 1))) bb bc db pb fa fc L O) (hok : A.Ok) (hd : d < A.S.dies) (hn : n < A.S.blocks) (hp : p < A.S.pages) (k1 : Keeps O w w3) (k2 : Keeps Nil w3 w9) :
    Step w ab bb bc db pb fa fc O (.returned (.bool true)) (A.progBad d n p) (.returned (.bool true)) ((w9.alloc (.cells (Array.replicate A.S.bytes (.int .u8 0)) 5)).setCell ⟨pb d n, p, none⟩ (.slice (some ⟨w9.heap.size, 0, none⟩) A.S.bytes A.S.bytes)).drew := by
  have ka := (Keeps.refl Nil w9).alloc (.cells (Array.replicate A.S.bytes (.int .u8 0)) 5)
  have hx : NumRow .u8 (w9.alloc (.cells (Array.replicate A.S.bytes (.int .u8 0)) 5)) 5 (some ⟨w9.heap.size, 0, none⟩) A.S.bytes (List.replicate A.S.bytes 0) := by
    refine numRow_replicate ?_ (by have := hok.S.n2; omega)
    have := heap_alloc_new w9 (.cells (Array.replicate A.S.bytes (.int .u8 0)) 5)
    simpa using this
  have h2 := (h.keeps ka (fun _ _ h => h)).putPage (d := d) (n := n) (p := p) hd hn hp hx
  rw [List.length_replicate, Nd.setB_same, Nd.setB_setB] at h2
  have ks := (Keeps.refl (fun k => k = pb d n) (w9.alloc (.cells (Array.replicate A.S.bytes (.int .u8 0)) 5))).setCell (p := ⟨pb d n, p, none⟩) (.inl rfl) (.slice (some ⟨w9.heap.size, 0, none⟩) A.S.bytes A.S.bytes)
  have hsz : w.heap.size ≤ w9.heap.size := Nat.le_trans k1.size k2.size
  refine ⟨rfl, L, _, h2.keeps (Keeps.refl Nil _).drew (fun _ _ h => h), ((k1.trans (k2.mono (fun _ h => h.elim))).trans ((ka.mono (fun _ h => h.elim)).trans (ks.mono (fun k e => by rw [e]; exact h.ownP d n hd hn)))).drew, fun k hk => ?_⟩
  rcases hk with hk | hk
  · exact .inl hk
  · exact .inr (by rw [hk]; exact hsz)
set_option maxHeartbeats 4000000 in
set_option maxRecDepth 100000 in
theorem bad59 {qb : Nat} {xa : Option Addr} {xn xc d n p : Nat} {op : Int} (h : NdB w ab A bb bc db pb fa fc L O) (hok : A.Ok) (hd : d < A.S.dies) (hn : n < A.S.blocks) (hp : p < A.S.pages)
    (hq : w.heap[qb]? = some (.cells (pgrCells ab (db d) (n * 3) d n p xa xn xc) 87 (0, 0))) (hqO : ¬ O qb) :
    Calls Try.prog 59 #[.pointer (some ⟨qb, 0, none⟩), .int .i64 op] w (Step w ab bb bc db pb fa fc O (.returned (.bool (A.badP op d n 2))) (A.progMid op d n p)) := by
  have hb1 := hok.S.p2
  have q0 := cell_of_heap hq 0
  have q1 := cell_of_heap hq 1
  have q2 := cell_of_heap hq 2
  have q3 := cell_of_heap hq 3
  have q4 := cell_of_heap hq 4
  simp only [pgrCells, List.getElem?_toArray, List.getElem?_cons_zero, List.getElem?_cons_succ] at q0 q1 q2 q3 q4
  obtain ⟨_, d1, _, df⟩ := h.cellD hd hn
  have h' := Lib.hid h
  have hok' := Lib.hid hok
  have hq' := Lib.hid hq
  have hw1 : IntKind.i64.wrap ((p : Int) + 1) = ((p + 1 : Nat) : Int) := by rw [IntKind.wrap_i64]; omega
  obtain ⟨bad, hbad⟩ : ∃ b, A.badP op d n 2 = b := ⟨_, rfl⟩
  obtain ⟨A2, hA2⟩ : ∃ A2, A.progMid op d n p = A2 := ⟨_, rfl⟩
  rw [hbad, hA2]
  have hbad' := Lib.hid hbad
  have hA2' := Lib.hid hA2
  clear h hok hq hbad hA2
  go_enter Try.func59, Try.ntmps59
  go_wp2_with fail
  go_still_tail 11, (by kernel_rfl)
  change wpList _ _ _ _ _ w.drew
  go_wp2_with fail
  rw [show (p : Int) + 1 = ((p + 1 : Nat) : Int) from rfl]
  have kd := ((Keeps.refl (· = db d) w).setCell (p := ⟨db d, n * 3 + 1, none⟩) (.inl rfl) (.int .i64 ((p + 1 : Nat) : Int))).drew
  have hN3 := (h'.out.editD (n := n) (k' := (A.B d n).at ((p : Int) + 1)) hd (w' := w.setCell ⟨db d, n * 3 + 1, none⟩ (.int .i64 ((p + 1 : Nat) : Int))) ((Keeps.refl (· = db d) w).setCell (p := ⟨db d, n * 3 + 1, none⟩) (.inl rfl) _) rfl ((h'.out.die d hd).setNext hn _)).keeps (Keeps.refl Nil _).drew (fun _ _ h => h)
  have hne : ¬ qb = db d := fun e => hqO (by rw [e]; exact h'.out.ownD d hd)
  have hq3 := kd.heap hq'.out hne
  have kO := Lib.hid (kd.mono (T := O) (fun k e => by rw [e]; exact h'.out.ownD d hd))
  have hF3 : (A.setB d n ((A.B d n).at ((p : Int) + 1))).F.length ≤ 2000 := hok'.out.len
  clear q0 q1 q2 q3 q4 d1 df hw1 kd hne
  generalize (w.setCell ⟨db d, n * 3 + 1, none⟩ (.int .i64 ((p + 1 : Nat) : Int))).drew = w3 at hN3 hq3 kO ⊢
  have hSt := Lib.hid (fun (W : World) (hW : Keeps Nil w3 W) (kind : Int) => struck56 (hN3.keeps hW (fun _ _ h => h)) hF3 op kind (d : Int) (n : Int))
  have hqs := Lib.hid (fun (W : World) (hW : Keeps Nil w3 W) => (show W.cell? ⟨qb, 0, none⟩ = some (.pointer (some ⟨ab, 0, none⟩)) ∧ W.cell? ⟨qb, 2, none⟩ = some (.int .i64 (d : Nat)) ∧ W.cell? ⟨qb, 3, none⟩ = some (.int .i64 (n : Nat)) from
    ⟨hW.cell (cell_of_heap hq3 0) (fun h => h), hW.cell (cell_of_heap hq3 2) (fun h => h), hW.cell (cell_of_heap hq3 3) (fun h => h)⟩))
  obtain ⟨f0, f2, f3⟩ := hqs.out w3 (Keeps.refl _ _)
  have hN3' := Lib.hid hN3
  have hq3' := Lib.hid hq3
  have hC2 := Lib.hid (hSt.out w3.drew (Keeps.refl Nil w3).drew 2)
  obtain ⟨s2, hs2⟩ : ∃ b, A.struck op 2 d n = b := ⟨_, rfl⟩
  obtain ⟨s6, hs6⟩ : ∃ b, A.struck op 6 d n = b := ⟨_, rfl⟩
  have hs6x := Lib.hid (show (A.setB d n ((A.B d n).at ((p : Int) + 1))).struck op 6 d n = s6 from hs6)
  rw [show (A.setB d n ((A.B d n).at ((p : Int) + 1))).struck op 2 d n = s2 from hs2] at hC2
  have hbad2 := hbad'.out
  unfold Nd.badP at hbad2
  rw [hs2, hs6] at hbad2
  clear hN3 hq3 hF3 hs2 hs6
  cases s2 with
  | true =>
    obtain rfl : bad = true := by rw [← hbad2]; rfl
    clear hbad2
    refine wp_region_held_drew (S := fun W => W.cell? ⟨qb, 0, none⟩ = some (.pointer (some ⟨ab, 0, none⟩)) ∧ W.cell? ⟨qb, 2, none⟩ = some (.int .i64 (d : Nat)) ∧ W.cell? ⟨qb, 3, none⟩ = some (.int .i64 (n : Nat))) (by kernel_rfl) ?q1a (fun hHeld => ?q1b)
    case q1a => (try dsimp only); first | exact ⟨f0, f2, f3⟩ | exact hqs.out _ ((Keeps.refl Nil w3).drew.trans hk9'.out)
    case q1b =>
      refine wpAnyH_take (i := 0) (oi := _) (v := ?q1_1v) rfl (by kernel_rfl) (by kernel_rfl) (by kernel_rfl) (fun _ _ _ h => h) (Or.inl ⟨by rfl, ?q1_1y⟩) (by assumption) ?q1_1r
      case q1_1y => (intro w0 hSw; (try dsimp only at hSw); go_simp; try (with_reducible rfl))
      case q1_1r =>
        simp only [Act.put, List.getElem_toArray, List.getElem_cons_zero, List.setIfInBounds_toArray, List.set_cons_zero, List.set_cons_succ]
        refine wpAnyH_take (i := 1) (oi := _) (v := ?q1_2v) rfl (by kernel_rfl) (by kernel_rfl) (by kernel_rfl) (fun _ _ _ h => h) (Or.inl ⟨by rfl, ?q1_2y⟩) (by assumption) ?q1_2r
        case q1_2y => (intro w0 hSw; (try dsimp only at hSw); go_simp; try (with_reducible rfl))
        case q1_2r =>
          simp only [Act.put, List.getElem_toArray, List.getElem_cons_succ, List.getElem_cons_zero, List.setIfInBounds_toArray, List.set_cons_zero, List.set_cons_succ]
          refine wpAnyH_take (i := 2) (oi := _) (v := ?q1_3v) rfl (by kernel_rfl) (by kernel_rfl) (by kernel_rfl) (fun _ _ _ h => h) (Or.inl ⟨by rfl, ?q1_3y⟩) (by assumption) ?q1_3r
          case q1_3y => (intro w0 hSw; (try dsimp only at hSw); go_simp; try (with_reducible rfl))
          case q1_3r =>
            simp only [Act.put, List.getElem_toArray, List.getElem_cons_succ, List.getElem_cons_zero, List.setIfInBounds_toArray, List.set_cons_zero, List.set_cons_succ]
            refine wpAnyH_take (i := 3) (oi := _) (v := ?q1_4v) rfl (by kernel_rfl) (by kernel_rfl) (by kernel_rfl) (fun _ _ _ h => h) (Or.inl ⟨by rfl, ?q1_4y⟩) (by assumption) ?q1_4r
            case q1_4y => (intro w0 hSw; (try dsimp only at hSw); go_simp; try (with_reducible rfl))
            case q1_4r =>
              simp only [Act.put, List.getElem_toArray, List.getElem_cons_succ, List.getElem_cons_zero, List.setIfInBounds_toArray, List.set_cons_zero, List.set_cons_succ]
              refine wpAnyH_take (i := 4) (oi := _) (v := ?q1_5v) rfl (by kernel_rfl) (by kernel_rfl) (by kernel_rfl) (fun _ _ _ h => h) (Or.inl ⟨by rfl, ?q1_5y⟩) (by assumption) ?q1_5r
              case q1_5y => (intro w0 hSw; (try dsimp only at hSw); go_simp; try (with_reducible rfl))
              case q1_5r =>
                simp only [Act.put, List.getElem_toArray, List.getElem_cons_succ, List.getElem_cons_zero, List.setIfInBounds_toArray, List.set_cons_zero, List.set_cons_succ]
                refine wpAnyH_take (i := 5) (oi := _) (v := ?q1_6v) rfl (by kernel_rfl) (by kernel_rfl) (by kernel_rfl) (fun _ _ _ h => h) (Or.inl ⟨by rfl, ?q1_6y⟩) (by assumption) ?q1_6r
                case q1_6y => (intro w0 hSw; (try dsimp only at hSw); go_simp; try (with_reducible rfl))
                case q1_6r =>
                  simp only [Act.put, List.getElem_toArray, List.getElem_cons_succ, List.getElem_cons_zero, List.setIfInBounds_toArray, List.set_cons_zero, List.set_cons_succ]
                  refine wpAnyH_take (i := 6) (oi := _) (v := ?q1_7v) rfl (by kernel_rfl) (by kernel_rfl) (by kernel_rfl) (fun _ _ _ h => h) (Or.inl ⟨by rfl, ?q1_7y⟩) (by assumption) ?q1_7r
                  case q1_7y => (intro w0 hSw; (try dsimp only at hSw); go_simp; try (with_reducible rfl))
                  case q1_7r =>
                    simp only [Act.put, List.getElem_toArray, List.getElem_cons_succ, List.getElem_cons_zero, List.setIfInBounds_toArray, List.set_cons_zero, List.set_cons_succ]
                    refine wpAnyH_take (i := 7) (oi := _) (v := ?q1_8v) rfl (by kernel_rfl) (by kernel_rfl) (by kernel_rfl) (fun _ _ _ h => h) (Or.inl ⟨by rfl, ?q1_8y⟩) (by assumption) ?q1_8r
                    case q1_8y => (intro w0 hSw; (try dsimp only at hSw); go_simp; try (with_reducible rfl))
                    case q1_8r =>
                      simp only [Act.put, List.getElem_toArray, List.getElem_cons_succ, List.getElem_cons_zero, List.setIfInBounds_toArray, List.set_cons_zero, List.set_cons_succ]
                      refine wpAnyH_take (i := 8) (oi := _) (v := ?q1_9v) rfl (by kernel_rfl) (by kernel_rfl) (by kernel_rfl) (fun _ _ _ h => h) (Or.inl ⟨by rfl, ?q1_9y⟩) (by assumption) ?q1_9r
                      case q1_9y => (intro w0 hSw; (try dsimp only at hSw); go_simp; try (with_reducible rfl))
                      case q1_9r =>
                        simp only [Act.put, List.getElem_toArray, List.getElem_cons_succ, List.getElem_cons_zero, List.setIfInBounds_toArray, List.set_cons_zero, List.set_cons_succ]
                        refine wpAnyH_take (i := 9) (oi := _) (v := ?q1_10v) rfl (by kernel_rfl) (by kernel_rfl) (by kernel_rfl) (fun _ _ _ h => h) (Or.inl ⟨by rfl, ?q1_10y⟩) (by assumption) ?q1_10r
                        case q1_10y => (intro w0 hSw; (try dsimp only at hSw); go_simp; try (with_reducible rfl))
                        case q1_10r =>
                          simp only [Act.put, List.getElem_toArray, List.getElem_cons_succ, List.getElem_cons_zero, List.setIfInBounds_toArray, List.set_cons_zero, List.set_cons_succ]
                          refine wpAnyH_take (i := 10) (oi := _) (v := ?q1_11v) rfl (by kernel_rfl) (by kernel_rfl) (by kernel_rfl) (fun _ _ _ h => h) (Or.inl ⟨by rfl, ?q1_11y⟩) (by assumption) ?q1_11r
                          case q1_11y => (intro w0 hSw; (try dsimp only at hSw); go_simp; try (with_reducible rfl))
                          case q1_11r =>
                            simp only [Act.put, List.getElem_toArray, List.getElem_cons_succ, List.getElem_cons_zero, List.setIfInBounds_toArray, List.set_cons_zero, List.set_cons_succ]
                            refine wpAnyH_take (i := 11) (oi := _) (v := ?q1_12v) rfl (by kernel_rfl) (by kernel_rfl) (by kernel_rfl) (fun _ _ _ h => h) (Or.inl ⟨by rfl, ?q1_12y⟩) (by assumption) ?q1_12r
                            case q1_12y => (intro w0 hSw; (try dsimp only at hSw); go_simp; try (with_reducible rfl))
                            case q1_12r =>
                              simp only [Act.put, List.getElem_toArray, List.getElem_cons_succ, List.getElem_cons_zero, List.setIfInBounds_toArray, List.set_cons_zero, List.set_cons_succ]
                              refine wpAnyH_take (i := 12) (oi := _) (v := ?q1_13v) rfl (by kernel_rfl) (by kernel_rfl) (by kernel_rfl) (fun _ _ _ h => h) (Or.inl ⟨by rfl, ?q1_13y⟩) (by assumption) ?q1_13r
                              case q1_13y => (intro w0 hSw; (try dsimp only at hSw); go_simp; try (with_reducible rfl))
                              case q1_13r =>
                                simp only [Act.put, List.getElem_toArray, List.getElem_cons_succ, List.getElem_cons_zero, List.setIfInBounds_toArray, List.set_cons_zero, List.set_cons_succ]
                                refine wpAnyH_ready (rs := [13]) (by kernel_rfl) (by simp) ?q1_14g
                                case q1_14g =>
                                  refine AllReadyH.cons (o := _) rfl (fun K hK => ?q1_14k) AllReadyH.nil
                                  case q1_14k =>
                                    go_simp
                                    (refine (hC2.out).mono ?_; rintro e w9 ⟨rfl, hk9⟩; have hk9' := Lib.hid hk9; clear hk9)
                                    refine hK.out _ _ ?q1_14s (fun hHeld => ?q1_14t)
                                    case q1_14s => (try dsimp only); first | exact ⟨f0, f2, f3⟩ | exact hqs.out _ ((Keeps.refl Nil w3).drew.trans hk9'.out)
                                    case q1_14t =>
                                      clear hK K
                                      try simp only [Act.put, List.getElem_toArray, List.getElem_cons_succ, List.getElem_cons_zero, List.setIfInBounds_toArray, List.set_cons_zero, List.set_cons_succ]
                                      refine wpAnyH_take (i := 14) (oi := _) (v := ?q1_15v) rfl (by kernel_rfl) (by kernel_rfl) (by kernel_rfl) (fun _ _ _ h => h) (Or.inl ⟨by rfl, ?q1_15y⟩) (by assumption) ?q1_15r
                                      case q1_15y => (intro w0 hSw; (try dsimp only at hSw); go_simp; try (with_reducible rfl))
                                      case q1_15r =>
                                        simp only [Act.put, List.getElem_toArray, List.getElem_cons_succ, List.getElem_cons_zero, List.setIfInBounds_toArray, List.set_cons_zero, List.set_cons_succ]
                                        refine wpAnyH_take (i := 15) (oi := _) (v := ?q1_16v) rfl (by kernel_rfl) (by kernel_rfl) (by kernel_rfl) (fun _ _ _ h => h) (Or.inl ⟨by rfl, ?q1_16y⟩) (by assumption) ?q1_16r
                                        case q1_16y => (intro w0 hSw; (try dsimp only at hSw); go_simp; try (with_reducible rfl))
                                        case q1_16r =>
                                          simp only [Act.put, List.getElem_toArray, List.getElem_cons_succ, List.getElem_cons_zero, List.setIfInBounds_toArray, List.set_cons_zero, List.set_cons_succ]
                                          refine wpAnyH_take (i := 16) (oi := _) (v := undef) rfl (by kernel_rfl) (by kernel_rfl) (by kernel_rfl) (fun _ _ _ h => h) (Or.inr ⟨by rfl, rfl⟩) (by assumption) ?q1_17r
                                          case q1_17r =>
                                            simp only [Act.put, List.getElem_toArray, List.getElem_cons_succ, List.getElem_cons_zero, List.setIfInBounds_toArray, List.set_cons_zero, List.set_cons_succ]
                                            refine wpAnyH_take (i := 17) (oi := _) (v := undef) rfl (by kernel_rfl) (by kernel_rfl) (by kernel_rfl) (fun _ _ _ h => h) (Or.inr ⟨by rfl, rfl⟩) (by assumption) ?q1_18r
                                            case q1_18r =>
                                              simp only [Act.put, List.getElem_toArray, List.getElem_cons_succ, List.getElem_cons_zero, List.setIfInBounds_toArray, List.set_cons_zero, List.set_cons_succ]
                                              refine wpAnyH_take (i := 18) (oi := _) (v := undef) rfl (by kernel_rfl) (by kernel_rfl) (by kernel_rfl) (fun _ _ _ h => h) (Or.inr ⟨by rfl, rfl⟩) (by assumption) ?q1_19r
                                              case q1_19r =>
                                                simp only [Act.put, List.getElem_toArray, List.getElem_cons_succ, List.getElem_cons_zero, List.setIfInBounds_toArray, List.set_cons_zero, List.set_cons_succ]
                                                refine wpAnyH_take (i := 19) (oi := _) (v := undef) rfl (by kernel_rfl) (by kernel_rfl) (by kernel_rfl) (fun _ _ _ h => h) (Or.inr ⟨by rfl, rfl⟩) (by assumption) ?q1_20r
                                                case q1_20r =>
                                                  simp only [Act.put, List.getElem_toArray, List.getElem_cons_succ, List.getElem_cons_zero, List.setIfInBounds_toArray, List.set_cons_zero, List.set_cons_succ]
                                                  refine wpAnyH_take (i := 20) (oi := _) (v := undef) rfl (by kernel_rfl) (by kernel_rfl) (by kernel_rfl) (fun _ _ _ h => h) (Or.inr ⟨by rfl, rfl⟩) (by assumption) ?q1_21r
                                                  case q1_21r =>
                                                    simp only [Act.put, List.getElem_toArray, List.getElem_cons_succ, List.getElem_cons_zero, List.setIfInBounds_toArray, List.set_cons_zero, List.set_cons_succ]
                                                    refine wpAnyH_take (i := 21) (oi := _) (v := undef) rfl (by kernel_rfl) (by kernel_rfl) (by kernel_rfl) (fun _ _ _ h => h) (Or.inr ⟨by rfl, rfl⟩) (by assumption) ?q1_22r
                                                    case q1_22r =>
                                                      simp only [Act.put, List.getElem_toArray, List.getElem_cons_succ, List.getElem_cons_zero, List.setIfInBounds_toArray, List.set_cons_zero, List.set_cons_succ]
                                                      refine wpAnyH_take (i := 22) (oi := _) (v := undef) rfl (by kernel_rfl) (by kernel_rfl) (by kernel_rfl) (fun _ _ _ h => h) (Or.inr ⟨by rfl, rfl⟩) (by assumption) ?q1_23r
                                                      case q1_23r =>
                                                        simp only [Act.put, List.getElem_toArray, List.getElem_cons_succ, List.getElem_cons_zero, List.setIfInBounds_toArray, List.set_cons_zero, List.set_cons_succ]
                                                        refine wpAnyH_take (i := 23) (oi := _) (v := undef) rfl (by kernel_rfl) (by kernel_rfl) (by kernel_rfl) (fun _ _ _ h => h) (Or.inr ⟨by rfl, rfl⟩) (by assumption) ?q1_24r
                                                        case q1_24r =>
                                                          simp only [Act.put, List.getElem_toArray, List.getElem_cons_succ, List.getElem_cons_zero, List.setIfInBounds_toArray, List.set_cons_zero, List.set_cons_succ]
                                                          refine wpAnyH_take (i := 24) (oi := _) (v := undef) rfl (by kernel_rfl) (by kernel_rfl) (by kernel_rfl) (fun _ _ _ h => h) (Or.inr ⟨by rfl, rfl⟩) (by assumption) ?q1_25r
                                                          case q1_25r =>
                                                            simp only [Act.put, List.getElem_toArray, List.getElem_cons_succ, List.getElem_cons_zero, List.setIfInBounds_toArray, List.set_cons_zero, List.set_cons_succ]
                                                            refine wpAnyH_take (i := 25) (oi := _) (v := undef) rfl (by kernel_rfl) (by kernel_rfl) (by kernel_rfl) (fun _ _ _ h => h) (Or.inr ⟨by rfl, rfl⟩) (by assumption) ?q1_26r
                                                            case q1_26r =>
                                                              simp only [Act.put, List.getElem_toArray, List.getElem_cons_succ, List.getElem_cons_zero, List.setIfInBounds_toArray, List.set_cons_zero, List.set_cons_succ]
                                                              refine wpAnyH_take (i := 26) (oi := _) (v := undef) rfl (by kernel_rfl) (by kernel_rfl) (by kernel_rfl) (fun _ _ _ h => h) (Or.inr ⟨by rfl, rfl⟩) (by assumption) ?q1_27r
                                                              case q1_27r =>
                                                                simp only [Act.put, List.getElem_toArray, List.getElem_cons_succ, List.getElem_cons_zero, List.setIfInBounds_toArray, List.set_cons_zero, List.set_cons_succ]
                                                                refine wpAnyH_take (i := 27) (oi := _) (v := undef) rfl (by kernel_rfl) (by kernel_rfl) (by kernel_rfl) (fun _ _ _ h => h) (Or.inr ⟨by rfl, rfl⟩) (by assumption) ?q1_28r
                                                                case q1_28r =>
                                                                  simp only [Act.put, List.getElem_toArray, List.getElem_cons_succ, List.getElem_cons_zero, List.setIfInBounds_toArray, List.set_cons_zero, List.set_cons_succ]
                                                                  refine wpAnyH_take (i := 28) (oi := _) (v := undef) rfl (by kernel_rfl) (by kernel_rfl) (by kernel_rfl) (fun _ _ _ h => h) (Or.inr ⟨by rfl, rfl⟩) (by assumption) ?q1_29r
                                                                  case q1_29r =>
                                                                    simp only [Act.put, List.getElem_toArray, List.getElem_cons_succ, List.getElem_cons_zero, List.setIfInBounds_toArray, List.set_cons_zero, List.set_cons_succ]
                                                                    refine wpAnyH_take (i := 29) (oi := _) (v := undef) rfl (by kernel_rfl) (by kernel_rfl) (by kernel_rfl) (fun _ _ _ h => h) (Or.inr ⟨by rfl, rfl⟩) (by assumption) ?q1_30r
                                                                    case q1_30r =>
                                                                      simp only [Act.put, List.getElem_toArray, List.getElem_cons_succ, List.getElem_cons_zero, List.setIfInBounds_toArray, List.set_cons_zero, List.set_cons_succ]
                                                                      refine wpAnyH_take (i := 30) (oi := _) (v := undef) rfl (by kernel_rfl) (by kernel_rfl) (by kernel_rfl) (fun _ _ _ h => h) (Or.inr ⟨by rfl, rfl⟩) (by assumption) ?q1_31r
                                                                      case q1_31r =>
                                                                        simp only [Act.put, List.getElem_toArray, List.getElem_cons_succ, List.getElem_cons_zero, List.setIfInBounds_toArray, List.set_cons_zero, List.set_cons_succ]
                                                                        refine wpAnyH_take (i := 31) (oi := _) (v := ?q1_32v) rfl (by kernel_rfl) (by kernel_rfl) (by kernel_rfl) (fun _ _ _ h => h) (Or.inl ⟨by rfl, ?q1_32y⟩) (by assumption) ?q1_32r
                                                                        case q1_32y => (intro w0 hSw; (try dsimp only at hSw); go_simp; try (with_reducible rfl))
                                                                        case q1_32r =>
                                                                          simp only [Act.put, List.getElem_toArray, List.getElem_cons_succ, List.getElem_cons_zero, List.setIfInBounds_toArray, List.set_cons_zero, List.set_cons_succ]
                                                                          refine wpAnyH_done (by kernel_rfl) ?q1z _
                                                                          case q1z =>
                                                                            have hk5 := Lib.hid ((Keeps.refl Nil w3).drew.trans hk9'.out)
                                                                            clear f0 f2 f3
                                                                            go_wp2_with fail
                                                                            have hN5 := Lib.hid (hN3'.out.keeps hk5.out (fun _ _ h => h))
                                                                            have hq5 := hk5.out.heap hq3'.out (fun h => h)
                                                                            have g0 := cell_of_heap hq5 0
                                                                            have g1 := cell_of_heap hq5 1
                                                                            have g4 := cell_of_heap hq5 4
                                                                            simp only [pgrCells, List.getElem?_toArray, List.getElem?_cons_zero, List.getElem?_cons_succ] at g0 g1 g4
                                                                            have d0 : w9.cell? ⟨db d, n * 3, none⟩ = some (.slice (some ⟨pb d n, 0, none⟩) A.S.pages A.S.pages) := (hN5.out.cellD hd hn).1
                                                                            obtain ⟨v, hv, _, hvf⟩ := hN5.out.cellP hd hn hp
                                                                            have c3 : w9.cell? ⟨ab, 3, none⟩ = some (.int .i64 (A.S.bytes : Nat)) := hN5.out.cellS
                                                                            obtain ⟨i5, hi, hz0, hz1, hz2⟩ := info_parts Try.info5n
                                                                            have hmk := Lib.hid (fun W => run_make1 (P := Try.prog) W 22 5 i5 (.int .u8 0) 1 Try.underlying22 hi hz0 hz1 hz2 rfl .i64 .i64 A.S.bytes (by have := hok'.out.S.n2; omega) (by have := hok'.out.S.n2; omega))
                                                                            have hm9 := hmk.out w9.drew
                                                                            have hv9 := ((Keeps.refl Nil w9).alloc (.cells (Array.replicate A.S.bytes (.int .u8 0)) 5)).cell hv (fun h => h)
                                                                            have hvf9 := ((Keeps.refl Nil w9).alloc (.cells (Array.replicate A.S.bytes (.int .u8 0)) 5)).frozen (hvf p) (lt_of_cell hv) (fun h => h)
                                                                            obtain ⟨cs, hcs⟩ := hN5.out.heapD hd
                                                                            obtain ⟨ps, hps⟩ := hN5.out.heapP hd hn
                                                                            have e1 : ¬ db d = pb d n := cells_ne hcs hps (by decide)
                                                                            have e2 : ¬ qb = pb d n := cells_ne hq5 hps (by decide)
                                                                            have e3 : ¬ ab = pb d n := cells_ne hN5.out.blk hps (by decide)
                                                                            have hS5 := Lib.hid (fun (W : World) (hW : Keeps (· = pb d n) w9 W) => (show W.cell? ⟨qb, 0, none⟩ = some (.pointer (some ⟨ab, 0, none⟩)) ∧ W.cell? ⟨qb, 1, none⟩ = some (.pointer (some ⟨db d, n * 3, none⟩)) ∧ W.cell? ⟨qb, 4, none⟩ = some (.int .i64 (p : Nat)) ∧ W.cell? ⟨db d, n * 3, none⟩ = some (.slice (some ⟨pb d n, 0, none⟩) A.S.pages A.S.pages) ∧ W.cell? ⟨ab, 3, none⟩ = some (.int .i64 (A.S.bytes : Nat)) from
                                                                              ⟨hW.cell g0 e2, hW.cell g1 e2, hW.cell g4 e2, hW.cell d0 e1, hW.cell c3 e3⟩))
                                                                            clear hq5 hi hz0 hz1 hz2 g0 g1 g4 d0 c3 hcs hps e1 e2 e3 hv hvf
                                                                            refine wp_region_held_drew (S := fun W => W.cell? ⟨qb, 0, none⟩ = some (.pointer (some ⟨ab, 0, none⟩)) ∧ W.cell? ⟨qb, 1, none⟩ = some (.pointer (some ⟨db d, n * 3, none⟩)) ∧ W.cell? ⟨qb, 4, none⟩ = some (.int .i64 (p : Nat)) ∧ W.cell? ⟨db d, n * 3, none⟩ = some (.slice (some ⟨pb d n, 0, none⟩) A.S.pages A.S.pages) ∧ W.cell? ⟨ab, 3, none⟩ = some (.int .i64 (A.S.bytes : Nat))) (by kernel_rfl) ?q2a (fun hHeld => ?q2b)
                                                                            case q2a => (try dsimp only); first | exact hS5.out _ ((Keeps.refl (· = pb d n) w9).drew) | exact hS5.out _ ((Keeps.refl (· = pb d n) w9).drew.alloc _) | exact hS5.out _ (((Keeps.refl (· = pb d n) w9).alloc _).drew) | exact hS5.out _ (((Keeps.refl (· = pb d n) w9).drew.alloc _).setCell (p := ⟨pb d n, p, none⟩) (.inl rfl) _) | exact hS5.out _ ((((Keeps.refl (· = pb d n) w9).alloc _).setCell (p := ⟨pb d n, p, none⟩) (.inl rfl) _).drew)
                                                                            case q2b =>
                                                                              refine wpAnyH_take (i := 0) (oi := _) (v := ?q2_1v) rfl (by kernel_rfl) (by kernel_rfl) (by kernel_rfl) (fun _ _ _ h => h) (Or.inl ⟨by rfl, ?q2_1y⟩) (by assumption) ?q2_1r
                                                                              case q2_1y => (intro w0 hSw; (try dsimp only at hSw); go_simp; try (with_reducible rfl))
                                                                              case q2_1r =>
                                                                                simp only [Act.put, List.getElem_toArray, List.getElem_cons_zero, List.setIfInBounds_toArray, List.set_cons_zero, List.set_cons_succ]
                                                                                refine wpAnyH_take (i := 1) (oi := _) (v := ?q2_2v) rfl (by kernel_rfl) (by kernel_rfl) (by kernel_rfl) (fun _ _ _ h => h) (Or.inl ⟨by rfl, ?q2_2y⟩) (by assumption) ?q2_2r
                                                                                case q2_2y => (intro w0 hSw; (try dsimp only at hSw); go_simp; try (with_reducible rfl))
                                                                                case q2_2r =>
                                                                                  simp only [Act.put, List.getElem_toArray, List.getElem_cons_succ, List.getElem_cons_zero, List.setIfInBounds_toArray, List.set_cons_zero, List.set_cons_succ]
                                                                                  refine wpAnyH_take (i := 2) (oi := _) (v := ?q2_3v) rfl (by kernel_rfl) (by kernel_rfl) (by kernel_rfl) (fun _ _ _ h => h) (Or.inl ⟨by rfl, ?q2_3y⟩) (by assumption) ?q2_3r
                                                                                  case q2_3y => (intro w0 hSw; (try dsimp only at hSw); go_simp; try (with_reducible rfl))
                                                                                  case q2_3r =>
                                                                                    simp only [Act.put, List.getElem_toArray, List.getElem_cons_succ, List.getElem_cons_zero, List.setIfInBounds_toArray, List.set_cons_zero, List.set_cons_succ]
                                                                                    refine wpAnyH_take (i := 3) (oi := _) (v := ?q2_4v) rfl (by kernel_rfl) (by kernel_rfl) (by kernel_rfl) (fun _ _ _ h => h) (Or.inl ⟨by rfl, ?q2_4y⟩) (by assumption) ?q2_4r
                                                                                    case q2_4y => (intro w0 hSw; (try dsimp only at hSw); go_simp; try (with_reducible rfl))
                                                                                    case q2_4r =>
                                                                                      simp only [Act.put, List.getElem_toArray, List.getElem_cons_succ, List.getElem_cons_zero, List.setIfInBounds_toArray, List.set_cons_zero, List.set_cons_succ]
                                                                                      refine wpAnyH_take (i := 4) (oi := _) (v := ?q2_5v) rfl (by kernel_rfl) (by kernel_rfl) (by kernel_rfl) (fun _ _ _ h => h) (Or.inl ⟨by rfl, ?q2_5y⟩) (by assumption) ?q2_5r
                                                                                      case q2_5y => (intro w0 hSw; (try dsimp only at hSw); go_simp; try (with_reducible rfl))
                                                                                      case q2_5r =>
                                                                                        simp only [Act.put, List.getElem_toArray, List.getElem_cons_succ, List.getElem_cons_zero, List.setIfInBounds_toArray, List.set_cons_zero, List.set_cons_succ]
                                                                                        refine wpAnyH_take (i := 5) (oi := _) (v := ?q2_6v) rfl (by kernel_rfl) (by kernel_rfl) (by kernel_rfl) (fun _ _ _ h => h) (Or.inl ⟨by rfl, ?q2_6y⟩) (by assumption) ?q2_6r
                                                                                        case q2_6y => (intro w0 hSw; (try dsimp only at hSw); go_simp; try (with_reducible rfl))
                                                                                        case q2_6r =>
                                                                                          simp only [Act.put, List.getElem_toArray, List.getElem_cons_succ, List.getElem_cons_zero, List.setIfInBounds_toArray, List.set_cons_zero, List.set_cons_succ]
                                                                                          refine wpAnyH_take (i := 6) (oi := _) (v := ?q2_7v) rfl (by kernel_rfl) (by kernel_rfl) (by kernel_rfl) (fun _ _ _ h => h) (Or.inl ⟨by rfl, ?q2_7y⟩) (by assumption) ?q2_7r
                                                                                          case q2_7y => (intro w0 hSw; (try dsimp only at hSw); go_simp; try (with_reducible rfl))
                                                                                          case q2_7r =>
                                                                                            simp only [Act.put, List.getElem_toArray, List.getElem_cons_succ, List.getElem_cons_zero, List.setIfInBounds_toArray, List.set_cons_zero, List.set_cons_succ]
                                                                                            refine wpAnyH_take (i := 7) (oi := _) (v := ?q2_8v) rfl (by kernel_rfl) (by kernel_rfl) (by kernel_rfl) (fun _ _ _ h => h) (Or.inl ⟨by rfl, ?q2_8y⟩) (by assumption) ?q2_8r
                                                                                            case q2_8y => (intro w0 hSw; (try dsimp only at hSw); go_simp; try (with_reducible rfl))
                                                                                            case q2_8r =>
                                                                                              simp only [Act.put, List.getElem_toArray, List.getElem_cons_succ, List.getElem_cons_zero, List.setIfInBounds_toArray, List.set_cons_zero, List.set_cons_succ]
                                                                                              refine wpAnyH_take (i := 8) (oi := _) (v := ?q2_9v) rfl (by kernel_rfl) (by kernel_rfl) (by kernel_rfl) (fun _ _ _ h => h) (Or.inl ⟨by rfl, ?q2_9y⟩) (by assumption) ?q2_9r
                                                                                              case q2_9y => (intro w0 hSw; (try dsimp only at hSw); go_simp; try (with_reducible rfl))
                                                                                              case q2_9r =>
                                                                                                simp only [Act.put, List.getElem_toArray, List.getElem_cons_succ, List.getElem_cons_zero, List.setIfInBounds_toArray, List.set_cons_zero, List.set_cons_succ]
                                                                                                refine wpAnyH_take (i := 9) (oi := _) (v := ?q2_10v) rfl (by kernel_rfl) (by kernel_rfl) (by kernel_rfl) (fun _ _ _ h => h) (Or.inl ⟨by rfl, ?q2_10y⟩) (by assumption) ?q2_10r
                                                                                                case q2_10y => (intro w0 hSw; (try dsimp only at hSw); go_simp; try (with_reducible rfl))
                                                                                                case q2_10r =>
                                                                                                  simp only [Act.put, List.getElem_toArray, List.getElem_cons_succ, List.getElem_cons_zero, List.setIfInBounds_toArray, List.set_cons_zero, List.set_cons_succ]
                                                                                                  refine wpAnyH_take (i := 10) (oi := _) (v := ?q2_11v) rfl (by kernel_rfl) (by kernel_rfl) (by kernel_rfl) (fun _ _ _ h => h) (Or.inl ⟨by rfl, ?q2_11y⟩) (by assumption) ?q2_11r
                                                                                                  case q2_11y => (intro w0 hSw; (try dsimp only at hSw); go_simp; try (with_reducible rfl))
                                                                                                  case q2_11r =>
                                                                                                    simp only [Act.put, List.getElem_toArray, List.getElem_cons_succ, List.getElem_cons_zero, List.setIfInBounds_toArray, List.set_cons_zero, List.set_cons_succ]
                                                                                                    refine wpAnyH_take (i := 11) (oi := _) (v := ?q2_12v) rfl (by kernel_rfl) (by kernel_rfl) (by kernel_rfl) (fun _ _ _ h => h) (Or.inl ⟨by rfl, ?q2_12y⟩) (by assumption) ?q2_12r
                                                                                                    case q2_12y => (intro w0 hSw; (try dsimp only at hSw); go_simp; try (with_reducible rfl))
                                                                                                    case q2_12r =>
                                                                                                      simp only [Act.put, List.getElem_toArray, List.getElem_cons_succ, List.getElem_cons_zero, List.setIfInBounds_toArray, List.set_cons_zero, List.set_cons_succ]
                                                                                                      refine wpAnyH_take (i := 12) (oi := _) (v := ?q2_13v) rfl (by kernel_rfl) (by kernel_rfl) (by kernel_rfl) (fun _ _ _ h => h) (Or.inl ⟨by rfl, ?q2_13y⟩) (by assumption) ?q2_13r
                                                                                                      case q2_13y => (intro w0 hSw; (try dsimp only at hSw); go_simp; try (with_reducible rfl))
                                                                                                      case q2_13r =>
                                                                                                        simp only [Act.put, List.getElem_toArray, List.getElem_cons_succ, List.getElem_cons_zero, List.setIfInBounds_toArray, List.set_cons_zero, List.set_cons_succ]
                                                                                                        refine wpAnyH_take (i := 13) (oi := _) (v := ?q2_14v) rfl (by kernel_rfl) (by kernel_rfl) (by kernel_rfl) (fun _ _ _ h => h) (Or.inl ⟨by rfl, ?q2_14y⟩) (by assumption) ?q2_14r
                                                                                                        case q2_14y => (intro w0 hSw; (try dsimp only at hSw); go_simp; try (with_reducible rfl))
                                                                                                        case q2_14r =>
                                                                                                          simp only [Act.put, List.getElem_toArray, List.getElem_cons_succ, List.getElem_cons_zero, List.setIfInBounds_toArray, List.set_cons_zero, List.set_cons_succ]
                                                                                                          refine wpAnyH_take (i := 14) (oi := _) (v := ?q2_15v) rfl (by kernel_rfl) (by kernel_rfl) (by kernel_rfl) (fun _ _ _ h => h) (Or.inl ⟨by rfl, ?q2_15y⟩) (by assumption) ?q2_15r
                                                                                                          case q2_15y => (intro w0 hSw; (try dsimp only at hSw); go_simp; try (with_reducible rfl))
                                                                                                          case q2_15r =>
                                                                                                            simp only [Act.put, List.getElem_toArray, List.getElem_cons_succ, List.getElem_cons_zero, List.setIfInBounds_toArray, List.set_cons_zero, List.set_cons_succ]
                                                                                                            refine wpAnyH_take (i := 15) (oi := _) (v := ?q2_16v) rfl (by kernel_rfl) (by kernel_rfl) (by kernel_rfl) (fun _ _ _ h => h) (Or.inl ⟨by rfl, ?q2_16y⟩) (by assumption) ?q2_16r
                                                                                                            case q2_16y => (intro w0 hSw; (try dsimp only at hSw); go_simp; try (with_reducible rfl))
                                                                                                            case q2_16r =>
                                                                                                              simp only [Act.put, List.getElem_toArray, List.getElem_cons_succ, List.getElem_cons_zero, List.setIfInBounds_toArray, List.set_cons_zero, List.set_cons_succ]
                                                                                                              refine wpAnyH_take (i := 16) (oi := _) (v := ?q2_17v) rfl (by kernel_rfl) (by kernel_rfl) (by kernel_rfl) (fun _ _ _ h => h) (Or.inl ⟨by rfl, ?q2_17y⟩) (by assumption) ?q2_17r
                                                                                                              case q2_17y => (intro w0 hSw; (try dsimp only at hSw); go_simp; try (with_reducible rfl))
                                                                                                              case q2_17r =>
                                                                                                                simp only [Act.put, List.getElem_toArray, List.getElem_cons_succ, List.getElem_cons_zero, List.setIfInBounds_toArray, List.set_cons_zero, List.set_cons_succ]
                                                                                                                refine wpAnyH_take (i := 17) (oi := _) (v := ?q2_18v) rfl (by kernel_rfl) (by kernel_rfl) (by kernel_rfl) (fun _ _ _ h => h) (Or.inl ⟨by rfl, ?q2_18y⟩) (by assumption) ?q2_18r
                                                                                                                case q2_18y => (intro w0 hSw; (try dsimp only at hSw); go_simp; try (with_reducible rfl))
                                                                                                                case q2_18r =>
                                                                                                                  simp only [Act.put, List.getElem_toArray, List.getElem_cons_succ, List.getElem_cons_zero, List.setIfInBounds_toArray, List.set_cons_zero, List.set_cons_succ]
                                                                                                                  refine wpAnyH_take (i := 18) (oi := _) (v := ?q2_19v) rfl (by kernel_rfl) (by kernel_rfl) (by kernel_rfl) (fun _ _ _ h => h) (Or.inl ⟨by rfl, ?q2_19y⟩) (by assumption) ?q2_19r
                                                                                                                  case q2_19y => (intro w0 hSw; (try dsimp only at hSw); go_simp; try (with_reducible rfl))
                                                                                                                  case q2_19r =>
                                                                                                                    simp only [Act.put, List.getElem_toArray, List.getElem_cons_succ, List.getElem_cons_zero, List.setIfInBounds_toArray, List.set_cons_zero, List.set_cons_succ]
                                                                                                                    refine wpAnyH_ready (rs := [19]) (by kernel_rfl) (by simp) ?q2_20g
                                                                                                                    case q2_20g =>
                                                                                                                      refine AllReadyH.cons (o := _) rfl (fun K hK => ?q2_20k) AllReadyH.nil
                                                                                                                      case q2_20k =>
                                                                                                                        go_simp
                                                                                                                        refine hK.out _ _ ?q2_20s (fun hHeld => ?q2_20t)
                                                                                                                        case q2_20s => (try dsimp only); first | exact hS5.out _ ((Keeps.refl (· = pb d n) w9).drew) | exact hS5.out _ ((Keeps.refl (· = pb d n) w9).drew.alloc _) | exact hS5.out _ (((Keeps.refl (· = pb d n) w9).alloc _).drew) | exact hS5.out _ (((Keeps.refl (· = pb d n) w9).drew.alloc _).setCell (p := ⟨pb d n, p, none⟩) (.inl rfl) _) | exact hS5.out _ ((((Keeps.refl (· = pb d n) w9).alloc _).setCell (p := ⟨pb d n, p, none⟩) (.inl rfl) _).drew)
                                                                                                                        case q2_20t =>
                                                                                                                          clear hK K
                                                                                                                          try simp only [Act.put, List.getElem_toArray, List.getElem_cons_succ, List.getElem_cons_zero, List.setIfInBounds_toArray, List.set_cons_zero, List.set_cons_succ]
                                                                                                                          refine wpAnyH_ready (rs := [20]) (by kernel_rfl) (by simp) ?q2_21g
                                                                                                                          case q2_21g =>
                                                                                                                            refine AllReadyH.cons (o := _) rfl (fun K hK => ?q2_21k) AllReadyH.nil
                                                                                                                            case q2_21k =>
                                                                                                                              go_simp
                                                                                                                              refine hK.out _ _ ?q2_21s (fun hHeld => ?q2_21t)
                                                                                                                              case q2_21s => (try dsimp only); first | exact hS5.out _ ((Keeps.refl (· = pb d n) w9).drew) | exact hS5.out _ ((Keeps.refl (· = pb d n) w9).drew.alloc _) | exact hS5.out _ (((Keeps.refl (· = pb d n) w9).alloc _).drew) | exact hS5.out _ (((Keeps.refl (· = pb d n) w9).drew.alloc _).setCell (p := ⟨pb d n, p, none⟩) (.inl rfl) _) | exact hS5.out _ ((((Keeps.refl (· = pb d n) w9).alloc _).setCell (p := ⟨pb d n, p, none⟩) (.inl rfl) _).drew)
                                                                                                                              case q2_21t =>
                                                                                                                                clear hK K
                                                                                                                                try simp only [Act.put, List.getElem_toArray, List.getElem_cons_succ, List.getElem_cons_zero, List.setIfInBounds_toArray, List.set_cons_zero, List.set_cons_succ]
                                                                                                                                refine wpAnyH_ready (rs := [21]) (by kernel_rfl) (by simp) ?q2_22g
                                                                                                                                case q2_22g =>
                                                                                                                                  refine AllReadyH.cons (o := _) rfl (fun K hK => ?q2_22k) AllReadyH.nil
                                                                                                                                  case q2_22k =>
                                                                                                                                    go_simp
                                                                                                                                    refine hK.out _ _ ?q2_22s (fun hHeld => ?q2_22t)
                                                                                                                                    case q2_22s => (try dsimp only); first | exact hS5.out _ ((Keeps.refl (· = pb d n) w9).drew) | exact hS5.out _ ((Keeps.refl (· = pb d n) w9).drew.alloc _) | exact hS5.out _ (((Keeps.refl (· = pb d n) w9).alloc _).drew) | exact hS5.out _ (((Keeps.refl (· = pb d n) w9).drew.alloc _).setCell (p := ⟨pb d n, p, none⟩) (.inl rfl) _) | exact hS5.out _ ((((Keeps.refl (· = pb d n) w9).alloc _).setCell (p := ⟨pb d n, p, none⟩) (.inl rfl) _).drew)
                                                                                                                                    case q2_22t =>
                                                                                                                                      clear hK K
                                                                                                                                      try simp only [Act.put, List.getElem_toArray, List.getElem_cons_succ, List.getElem_cons_zero, List.setIfInBounds_toArray, List.set_cons_zero, List.set_cons_succ]
                                                                                                                                      refine wpAnyH_done (by kernel_rfl) ?q2z _
                                                                                                                                      case q2z =>
                                                                                                                                        go_wp2_with fail
                                                                                                                                        go_ret
                                                                                                                                        rw [← hA2'.out]
                                                                                                                                        rw [show A.progMid op d n p = A.progBad d n p from if_pos hbad'.out]
                                                                                                                                        exact bad_end hN5.out hok'.out hd hn hp kO.out hk5.out
  | false =>
    obtain rfl : bad = s6 := by rw [← hbad2]; rfl
    clear hbad2
    refine wp_region_held_drew (S := fun W => W.cell? ⟨qb, 0, none⟩ = some (.pointer (some ⟨ab, 0, none⟩)) ∧ W.cell? ⟨qb, 2, none⟩ = some (.int .i64 (d : Nat)) ∧ W.cell? ⟨qb, 3, none⟩ = some (.int .i64 (n : Nat))) (by kernel_rfl) ?q3a (fun hHeld => ?q3b)
    case q3a => (try dsimp only); first | exact ⟨f0, f2, f3⟩ | exact hqs.out _ ((Keeps.refl Nil w3).drew.trans hk9'.out) | exact hqs.out _ (((Keeps.refl Nil w3).drew.trans hk9'.out).trans hk8'.out)
    case q3b =>
      refine wpAnyH_take (i := 0) (oi := _) (v := ?q3_1v) rfl (by kernel_rfl) (by kernel_rfl) (by kernel_rfl) (fun _ _ _ h => h) (Or.inl ⟨by rfl, ?q3_1y⟩) (by assumption) ?q3_1r
      case q3_1y => (intro w0 hSw; (try dsimp only at hSw); go_simp; try (with_reducible rfl))
      case q3_1r =>
        simp only [Act.put, List.getElem_toArray, List.getElem_cons_zero, List.setIfInBounds_toArray, List.set_cons_zero, List.set_cons_succ]
        refine wpAnyH_take (i := 1) (oi := _) (v := ?q3_2v) rfl (by kernel_rfl) (by kernel_rfl) (by kernel_rfl) (fun _ _ _ h => h) (Or.inl ⟨by rfl, ?q3_2y⟩) (by assumption) ?q3_2r
        case q3_2y => (intro w0 hSw; (try dsimp only at hSw); go_simp; try (with_reducible rfl))
        case q3_2r =>
          simp only [Act.put, List.getElem_toArray, List.getElem_cons_succ, List.getElem_cons_zero, List.setIfInBounds_toArray, List.set_cons_zero, List.set_cons_succ]
          refine wpAnyH_take (i := 2) (oi := _) (v := ?q3_3v) rfl (by kernel_rfl) (by kernel_rfl) (by kernel_rfl) (fun _ _ _ h => h) (Or.inl ⟨by rfl, ?q3_3y⟩) (by assumption) ?q3_3r
          case q3_3y => (intro w0 hSw; (try dsimp only at hSw); go_simp; try (with_reducible rfl))
          case q3_3r =>
            simp only [Act.put, List.getElem_toArray, List.getElem_cons_succ, List.getElem_cons_zero, List.setIfInBounds_toArray, List.set_cons_zero, List.set_cons_succ]
            refine wpAnyH_take (i := 3) (oi := _) (v := ?q3_4v) rfl (by kernel_rfl) (by kernel_rfl) (by kernel_rfl) (fun _ _ _ h => h) (Or.inl ⟨by rfl, ?q3_4y⟩) (by assumption) ?q3_4r
            case q3_4y => (intro w0 hSw; (try dsimp only at hSw); go_simp; try (with_reducible rfl))
            case q3_4r =>
              simp only [Act.put, List.getElem_toArray, List.getElem_cons_succ, List.getElem_cons_zero, List.setIfInBounds_toArray, List.set_cons_zero, List.set_cons_succ]
              refine wpAnyH_take (i := 4) (oi := _) (v := ?q3_5v) rfl (by kernel_rfl) (by kernel_rfl) (by kernel_rfl) (fun _ _ _ h => h) (Or.inl ⟨by rfl, ?q3_5y⟩) (by assumption) ?q3_5r
              case q3_5y => (intro w0 hSw; (try dsimp only at hSw); go_simp; try (with_reducible rfl))
              case q3_5r =>
                simp only [Act.put, List.getElem_toArray, List.getElem_cons_succ, List.getElem_cons_zero, List.setIfInBounds_toArray, List.set_cons_zero, List.set_cons_succ]
                refine wpAnyH_take (i := 5) (oi := _) (v := ?q3_6v) rfl (by kernel_rfl) (by kernel_rfl) (by kernel_rfl) (fun _ _ _ h => h) (Or.inl ⟨by rfl, ?q3_6y⟩) (by assumption) ?q3_6r
                case q3_6y => (intro w0 hSw; (try dsimp only at hSw); go_simp; try (with_reducible rfl))
                case q3_6r =>
                  simp only [Act.put, List.getElem_toArray, List.getElem_cons_succ, List.getElem_cons_zero, List.setIfInBounds_toArray, List.set_cons_zero, List.set_cons_succ]
                  refine wpAnyH_take (i := 6) (oi := _) (v := ?q3_7v) rfl (by kernel_rfl) (by kernel_rfl) (by kernel_rfl) (fun _ _ _ h => h) (Or.inl ⟨by rfl, ?q3_7y⟩) (by assumption) ?q3_7r
                  case q3_7y => (intro w0 hSw; (try dsimp only at hSw); go_simp; try (with_reducible rfl))
                  case q3_7r =>
                    simp only [Act.put, List.getElem_toArray, List.getElem_cons_succ, List.getElem_cons_zero, List.setIfInBounds_toArray, List.set_cons_zero, List.set_cons_succ]
                    refine wpAnyH_take (i := 7) (oi := _) (v := ?q3_8v) rfl (by kernel_rfl) (by kernel_rfl) (by kernel_rfl) (fun _ _ _ h => h) (Or.inl ⟨by rfl, ?q3_8y⟩) (by assumption) ?q3_8r
                    case q3_8y => (intro w0 hSw; (try dsimp only at hSw); go_simp; try (with_reducible rfl))
                    case q3_8r =>
                      simp only [Act.put, List.getElem_toArray, List.getElem_cons_succ, List.getElem_cons_zero, List.setIfInBounds_toArray, List.set_cons_zero, List.set_cons_succ]
                      refine wpAnyH_take (i := 8) (oi := _) (v := ?q3_9v) rfl (by kernel_rfl) (by kernel_rfl) (by kernel_rfl) (fun _ _ _ h => h) (Or.inl ⟨by rfl, ?q3_9y⟩) (by assumption) ?q3_9r
                      case q3_9y => (intro w0 hSw; (try dsimp only at hSw); go_simp; try (with_reducible rfl))
                      case q3_9r =>
                        simp only [Act.put, List.getElem_toArray, List.getElem_cons_succ, List.getElem_cons_zero, List.setIfInBounds_toArray, List.set_cons_zero, List.set_cons_succ]
                        refine wpAnyH_take (i := 9) (oi := _) (v := ?q3_10v) rfl (by kernel_rfl) (by kernel_rfl) (by kernel_rfl) (fun _ _ _ h => h) (Or.inl ⟨by rfl, ?q3_10y⟩) (by assumption) ?q3_10r
                        case q3_10y => (intro w0 hSw; (try dsimp only at hSw); go_simp; try (with_reducible rfl))
                        case q3_10r =>
                          simp only [Act.put, List.getElem_toArray, List.getElem_cons_succ, List.getElem_cons_zero, List.setIfInBounds_toArray, List.set_cons_zero, List.set_cons_succ]
                          refine wpAnyH_take (i := 10) (oi := _) (v := ?q3_11v) rfl (by kernel_rfl) (by kernel_rfl) (by kernel_rfl) (fun _ _ _ h => h) (Or.inl ⟨by rfl, ?q3_11y⟩) (by assumption) ?q3_11r
                          case q3_11y => (intro w0 hSw; (try dsimp only at hSw); go_simp; try (with_reducible rfl))
                          case q3_11r =>
                            simp only [Act.put, List.getElem_toArray, List.getElem_cons_succ, List.getElem_cons_zero, List.setIfInBounds_toArray, List.set_cons_zero, List.set_cons_succ]
                            refine wpAnyH_take (i := 11) (oi := _) (v := ?q3_12v) rfl (by kernel_rfl) (by kernel_rfl) (by kernel_rfl) (fun _ _ _ h => h) (Or.inl ⟨by rfl, ?q3_12y⟩) (by assumption) ?q3_12r
                            case q3_12y => (intro w0 hSw; (try dsimp only at hSw); go_simp; try (with_reducible rfl))
                            case q3_12r =>
                              simp only [Act.put, List.getElem_toArray, List.getElem_cons_succ, List.getElem_cons_zero, List.setIfInBounds_toArray, List.set_cons_zero, List.set_cons_succ]
                              refine wpAnyH_take (i := 12) (oi := _) (v := ?q3_13v) rfl (by kernel_rfl) (by kernel_rfl) (by kernel_rfl) (fun _ _ _ h => h) (Or.inl ⟨by rfl, ?q3_13y⟩) (by assumption) ?q3_13r
                              case q3_13y => (intro w0 hSw; (try dsimp only at hSw); go_simp; try (with_reducible rfl))
                              case q3_13r =>
                                simp only [Act.put, List.getElem_toArray, List.getElem_cons_succ, List.getElem_cons_zero, List.setIfInBounds_toArray, List.set_cons_zero, List.set_cons_succ]
                                refine wpAnyH_ready (rs := [13]) (by kernel_rfl) (by simp) ?q3_14g
                                case q3_14g =>
                                  refine AllReadyH.cons (o := _) rfl (fun K hK => ?q3_14k) AllReadyH.nil
                                  case q3_14k =>
                                    go_simp
                                    (first | ((with_reducible refine (hC2.out).mono ?_); rintro e w9 ⟨rfl, hk9⟩; have hk9' := Lib.hid hk9; have hC6 := Lib.hid (hSt.out w9 ((Keeps.refl Nil w3).drew.trans hk9) 6); rw [hs6x.out] at hC6; clear hk9) | ((with_reducible refine (hC6.out).mono ?_); rintro e w8 ⟨rfl, hk8⟩; have hk8' := Lib.hid hk8; clear hk8))
                                    refine hK.out _ _ ?q3_14s (fun hHeld => ?q3_14t)
                                    case q3_14s => (try dsimp only); first | exact ⟨f0, f2, f3⟩ | exact hqs.out _ ((Keeps.refl Nil w3).drew.trans hk9'.out) | exact hqs.out _ (((Keeps.refl Nil w3).drew.trans hk9'.out).trans hk8'.out)
                                    case q3_14t =>
                                      clear hK K
                                      try simp only [Act.put, List.getElem_toArray, List.getElem_cons_succ, List.getElem_cons_zero, List.setIfInBounds_toArray, List.set_cons_zero, List.set_cons_succ]
                                      refine wpAnyH_take (i := 14) (oi := _) (v := ?q3_15v) rfl (by kernel_rfl) (by kernel_rfl) (by kernel_rfl) (fun _ _ _ h => h) (Or.inl ⟨by rfl, ?q3_15y⟩) (by assumption) ?q3_15r
                                      case q3_15y => (intro w0 hSw; (try dsimp only at hSw); go_simp; try (with_reducible rfl))
                                      case q3_15r =>
                                        simp only [Act.put, List.getElem_toArray, List.getElem_cons_succ, List.getElem_cons_zero, List.setIfInBounds_toArray, List.set_cons_zero, List.set_cons_succ]
                                        refine wpAnyH_take (i := 15) (oi := _) (v := ?q3_16v) rfl (by kernel_rfl) (by kernel_rfl) (by kernel_rfl) (fun _ _ _ h => h) (Or.inl ⟨by rfl, ?q3_16y⟩) (by assumption) ?q3_16r
                                        case q3_16y => (intro w0 hSw; (try dsimp only at hSw); go_simp; try (with_reducible rfl))
                                        case q3_16r =>
                                          simp only [Act.put, List.getElem_toArray, List.getElem_cons_succ, List.getElem_cons_zero, List.setIfInBounds_toArray, List.set_cons_zero, List.set_cons_succ]
                                          refine wpAnyH_take (i := 16) (oi := _) (v := ?q3_17v) rfl (by kernel_rfl) (by kernel_rfl) (by kernel_rfl) (fun _ _ _ h => h) (Or.inl ⟨by rfl, ?q3_17y⟩) (by assumption) ?q3_17r
                                          case q3_17y => (intro w0 hSw; (try dsimp only at hSw); go_simp; try (with_reducible rfl))
                                          case q3_17r =>
                                            simp only [Act.put, List.getElem_toArray, List.getElem_cons_succ, List.getElem_cons_zero, List.setIfInBounds_toArray, List.set_cons_zero, List.set_cons_succ]
                                            refine wpAnyH_take (i := 17) (oi := _) (v := ?q3_18v) rfl (by kernel_rfl) (by kernel_rfl) (by kernel_rfl) (fun _ _ _ h => h) (Or.inl ⟨by rfl, ?q3_18y⟩) (by assumption) ?q3_18r
                                            case q3_18y => (intro w0 hSw; (try dsimp only at hSw); go_simp; try (with_reducible rfl))
                                            case q3_18r =>
                                              simp only [Act.put, List.getElem_toArray, List.getElem_cons_succ, List.getElem_cons_zero, List.setIfInBounds_toArray, List.set_cons_zero, List.set_cons_succ]
                                              refine wpAnyH_take (i := 18) (oi := _) (v := ?q3_19v) rfl (by kernel_rfl) (by kernel_rfl) (by kernel_rfl) (fun _ _ _ h => h) (Or.inl ⟨by rfl, ?q3_19y⟩) (by assumption) ?q3_19r
                                              case q3_19y => (intro w0 hSw; (try dsimp only at hSw); go_simp; try (with_reducible rfl))
                                              case q3_19r =>
                                                simp only [Act.put, List.getElem_toArray, List.getElem_cons_succ, List.getElem_cons_zero, List.setIfInBounds_toArray, List.set_cons_zero, List.set_cons_succ]
                                                refine wpAnyH_take (i := 19) (oi := _) (v := ?q3_20v) rfl (by kernel_rfl) (by kernel_rfl) (by kernel_rfl) (fun _ _ _ h => h) (Or.inl ⟨by rfl, ?q3_20y⟩) (by assumption) ?q3_20r
                                                case q3_20y => (intro w0 hSw; (try dsimp only at hSw); go_simp; try (with_reducible rfl))
                                                case q3_20r =>
                                                  simp only [Act.put, List.getElem_toArray, List.getElem_cons_succ, List.getElem_cons_zero, List.setIfInBounds_toArray, List.set_cons_zero, List.set_cons_succ]
                                                  refine wpAnyH_take (i := 20) (oi := _) (v := ?q3_21v) rfl (by kernel_rfl) (by kernel_rfl) (by kernel_rfl) (fun _ _ _ h => h) (Or.inl ⟨by rfl, ?q3_21y⟩) (by assumption) ?q3_21r
                                                  case q3_21y => (intro w0 hSw; (try dsimp only at hSw); go_simp; try (with_reducible rfl))
                                                  case q3_21r =>
                                                    simp only [Act.put, List.getElem_toArray, List.getElem_cons_succ, List.getElem_cons_zero, List.setIfInBounds_toArray, List.set_cons_zero, List.set_cons_succ]
                                                    refine wpAnyH_take (i := 21) (oi := _) (v := ?q3_22v) rfl (by kernel_rfl) (by kernel_rfl) (by kernel_rfl) (fun _ _ _ h => h) (Or.inl ⟨by rfl, ?q3_22y⟩) (by assumption) ?q3_22r
                                                    case q3_22y => (intro w0 hSw; (try dsimp only at hSw); go_simp; try (with_reducible rfl))
                                                    case q3_22r =>
                                                      simp only [Act.put, List.getElem_toArray, List.getElem_cons_succ, List.getElem_cons_zero, List.setIfInBounds_toArray, List.set_cons_zero, List.set_cons_succ]
                                                      refine wpAnyH_take (i := 22) (oi := _) (v := ?q3_23v) rfl (by kernel_rfl) (by kernel_rfl) (by kernel_rfl) (fun _ _ _ h => h) (Or.inl ⟨by rfl, ?q3_23y⟩) (by assumption) ?q3_23r
                                                      case q3_23y => (intro w0 hSw; (try dsimp only at hSw); go_simp; try (with_reducible rfl))
                                                      case q3_23r =>
                                                        simp only [Act.put, List.getElem_toArray, List.getElem_cons_succ, List.getElem_cons_zero, List.setIfInBounds_toArray, List.set_cons_zero, List.set_cons_succ]
                                                        refine wpAnyH_take (i := 23) (oi := _) (v := ?q3_24v) rfl (by kernel_rfl) (by kernel_rfl) (by kernel_rfl) (fun _ _ _ h => h) (Or.inl ⟨by rfl, ?q3_24y⟩) (by assumption) ?q3_24r
                                                        case q3_24y => (intro w0 hSw; (try dsimp only at hSw); go_simp; try (with_reducible rfl))
                                                        case q3_24r =>
                                                          simp only [Act.put, List.getElem_toArray, List.getElem_cons_succ, List.getElem_cons_zero, List.setIfInBounds_toArray, List.set_cons_zero, List.set_cons_succ]
                                                          refine wpAnyH_take (i := 24) (oi := _) (v := ?q3_25v) rfl (by kernel_rfl) (by kernel_rfl) (by kernel_rfl) (fun _ _ _ h => h) (Or.inl ⟨by rfl, ?q3_25y⟩) (by assumption) ?q3_25r
                                                          case q3_25y => (intro w0 hSw; (try dsimp only at hSw); go_simp; try (with_reducible rfl))
                                                          case q3_25r =>
                                                            simp only [Act.put, List.getElem_toArray, List.getElem_cons_succ, List.getElem_cons_zero, List.setIfInBounds_toArray, List.set_cons_zero, List.set_cons_succ]
                                                            refine wpAnyH_take (i := 25) (oi := _) (v := ?q3_26v) rfl (by kernel_rfl) (by kernel_rfl) (by kernel_rfl) (fun _ _ _ h => h) (Or.inl ⟨by rfl, ?q3_26y⟩) (by assumption) ?q3_26r
                                                            case q3_26y => (intro w0 hSw; (try dsimp only at hSw); go_simp; try (with_reducible rfl))
                                                            case q3_26r =>
                                                              simp only [Act.put, List.getElem_toArray, List.getElem_cons_succ, List.getElem_cons_zero, List.setIfInBounds_toArray, List.set_cons_zero, List.set_cons_succ]
                                                              refine wpAnyH_take (i := 26) (oi := _) (v := ?q3_27v) rfl (by kernel_rfl) (by kernel_rfl) (by kernel_rfl) (fun _ _ _ h => h) (Or.inl ⟨by rfl, ?q3_27y⟩) (by assumption) ?q3_27r
                                                              case q3_27y => (intro w0 hSw; (try dsimp only at hSw); go_simp; try (with_reducible rfl))
                                                              case q3_27r =>
                                                                simp only [Act.put, List.getElem_toArray, List.getElem_cons_succ, List.getElem_cons_zero, List.setIfInBounds_toArray, List.set_cons_zero, List.set_cons_succ]
                                                                refine wpAnyH_take (i := 27) (oi := _) (v := ?q3_28v) rfl (by kernel_rfl) (by kernel_rfl) (by kernel_rfl) (fun _ _ _ h => h) (Or.inl ⟨by rfl, ?q3_28y⟩) (by assumption) ?q3_28r
                                                                case q3_28y => (intro w0 hSw; (try dsimp only at hSw); go_simp; try (with_reducible rfl))
                                                                case q3_28r =>
                                                                  simp only [Act.put, List.getElem_toArray, List.getElem_cons_succ, List.getElem_cons_zero, List.setIfInBounds_toArray, List.set_cons_zero, List.set_cons_succ]
                                                                  refine wpAnyH_take (i := 28) (oi := _) (v := ?q3_29v) rfl (by kernel_rfl) (by kernel_rfl) (by kernel_rfl) (fun _ _ _ h => h) (Or.inl ⟨by rfl, ?q3_29y⟩) (by assumption) ?q3_29r
                                                                  case q3_29y => (intro w0 hSw; (try dsimp only at hSw); go_simp; try (with_reducible rfl))
                                                                  case q3_29r =>
                                                                    simp only [Act.put, List.getElem_toArray, List.getElem_cons_succ, List.getElem_cons_zero, List.setIfInBounds_toArray, List.set_cons_zero, List.set_cons_succ]
                                                                    refine wpAnyH_ready (rs := [29]) (by kernel_rfl) (by simp) ?q3_30g
                                                                    case q3_30g =>
                                                                      refine AllReadyH.cons (o := _) rfl (fun K hK => ?q3_30k) AllReadyH.nil
                                                                      case q3_30k =>
                                                                        go_simp
                                                                        (first | ((with_reducible refine (hC2.out).mono ?_); rintro e w9 ⟨rfl, hk9⟩; have hk9' := Lib.hid hk9; have hC6 := Lib.hid (hSt.out w9 ((Keeps.refl Nil w3).drew.trans hk9) 6); rw [hs6x.out] at hC6; clear hk9) | ((with_reducible refine (hC6.out).mono ?_); rintro e w8 ⟨rfl, hk8⟩; have hk8' := Lib.hid hk8; clear hk8))
                                                                        refine hK.out _ _ ?q3_30s (fun hHeld => ?q3_30t)
                                                                        case q3_30s => (try dsimp only); first | exact ⟨f0, f2, f3⟩ | exact hqs.out _ ((Keeps.refl Nil w3).drew.trans hk9'.out) | exact hqs.out _ (((Keeps.refl Nil w3).drew.trans hk9'.out).trans hk8'.out)
                                                                        case q3_30t =>
                                                                          clear hK K
                                                                          try simp only [Act.put, List.getElem_toArray, List.getElem_cons_succ, List.getElem_cons_zero, List.setIfInBounds_toArray, List.set_cons_zero, List.set_cons_succ]
                                                                          refine wpAnyH_take (i := 30) (oi := _) (v := ?q3_31v) rfl (by kernel_rfl) (by kernel_rfl) (by kernel_rfl) (fun _ _ _ h => h) (Or.inl ⟨by rfl, ?q3_31y⟩) (by assumption) ?q3_31r
                                                                          case q3_31y => (intro w0 hSw; (try dsimp only at hSw); go_simp; try (with_reducible rfl))
                                                                          case q3_31r =>
                                                                            simp only [Act.put, List.getElem_toArray, List.getElem_cons_succ, List.getElem_cons_zero, List.setIfInBounds_toArray, List.set_cons_zero, List.set_cons_succ]
                                                                            refine wpAnyH_take (i := 31) (oi := _) (v := ?q3_32v) rfl (by kernel_rfl) (by kernel_rfl) (by kernel_rfl) (fun _ _ _ h => h) (Or.inl ⟨by rfl, ?q3_32y⟩) (by assumption) ?q3_32r
                                                                            case q3_32y => (intro w0 hSw; (try dsimp only at hSw); go_simp; try (with_reducible rfl))
                                                                            case q3_32r =>
                                                                              simp only [Act.put, List.getElem_toArray, List.getElem_cons_succ, List.getElem_cons_zero, List.setIfInBounds_toArray, List.set_cons_zero, List.set_cons_succ]
                                                                              refine wpAnyH_done (by kernel_rfl) ?q3z _
                                                                              case q3z =>
                                                                                cases bad with
                                                                                | true =>
                                                                                  have hk5 := Lib.hid (((Keeps.refl Nil w3).drew.trans hk9'.out).trans hk8'.out)
                                                                                  clear f0 f2 f3
                                                                                  go_wp2_with fail
                                                                                  have hN5 := Lib.hid (hN3'.out.keeps hk5.out (fun _ _ h => h))
                                                                                  have hq5 := hk5.out.heap hq3'.out (fun h => h)
                                                                                  have g0 := cell_of_heap hq5 0
                                                                                  have g1 := cell_of_heap hq5 1
                                                                                  have g4 := cell_of_heap hq5 4
                                                                                  simp only [pgrCells, List.getElem?_toArray, List.getElem?_cons_zero, List.getElem?_cons_succ] at g0 g1 g4
                                                                                  have d0 : w8.cell? ⟨db d, n * 3, none⟩ = some (.slice (some ⟨pb d n, 0, none⟩) A.S.pages A.S.pages) := (hN5.out.cellD hd hn).1
                                                                                  obtain ⟨v, hv, _, hvf⟩ := hN5.out.cellP hd hn hp
                                                                                  have c3 : w8.cell? ⟨ab, 3, none⟩ = some (.int .i64 (A.S.bytes : Nat)) := hN5.out.cellS
                                                                                  obtain ⟨i5, hi, hz0, hz1, hz2⟩ := info_parts Try.info5n
                                                                                  have hmk := Lib.hid (fun W => run_make1 (P := Try.prog) W 22 5 i5 (.int .u8 0) 1 Try.underlying22 hi hz0 hz1 hz2 rfl .i64 .i64 A.S.bytes (by have := hok'.out.S.n2; omega) (by have := hok'.out.S.n2; omega))
                                                                                  have hm9 := hmk.out w8.drew
                                                                                  have hv9 := ((Keeps.refl Nil w8).alloc (.cells (Array.replicate A.S.bytes (.int .u8 0)) 5)).cell hv (fun h => h)
                                                                                  have hvf9 := ((Keeps.refl Nil w8).alloc (.cells (Array.replicate A.S.bytes (.int .u8 0)) 5)).frozen (hvf p) (lt_of_cell hv) (fun h => h)
                                                                                  obtain ⟨cs, hcs⟩ := hN5.out.heapD hd
                                                                                  obtain ⟨ps, hps⟩ := hN5.out.heapP hd hn
                                                                                  have e1 : ¬ db d = pb d n := cells_ne hcs hps (by decide)
                                                                                  have e2 : ¬ qb = pb d n := cells_ne hq5 hps (by decide)
                                                                                  have e3 : ¬ ab = pb d n := cells_ne hN5.out.blk hps (by decide)
                                                                                  have hS5 := Lib.hid (fun (W : World) (hW : Keeps (· = pb d n) w8 W) => (show W.cell? ⟨qb, 0, none⟩ = some (.pointer (some ⟨ab, 0, none⟩)) ∧ W.cell? ⟨qb, 1, none⟩ = some (.pointer (some ⟨db d, n * 3, none⟩)) ∧ W.cell? ⟨qb, 4, none⟩ = some (.int .i64 (p : Nat)) ∧ W.cell? ⟨db d, n * 3, none⟩ = some (.slice (some ⟨pb d n, 0, none⟩) A.S.pages A.S.pages) ∧ W.cell? ⟨ab, 3, none⟩ = some (.int .i64 (A.S.bytes : Nat)) from
                                                                                    ⟨hW.cell g0 e2, hW.cell g1 e2, hW.cell g4 e2, hW.cell d0 e1, hW.cell c3 e3⟩))
                                                                                  clear hq5 hi hz0 hz1 hz2 g0 g1 g4 d0 c3 hcs hps e1 e2 e3 hv hvf
                                                                                  refine wp_region_held_drew (S := fun W => W.cell? ⟨qb, 0, none⟩ = some (.pointer (some ⟨ab, 0, none⟩)) ∧ W.cell? ⟨qb, 1, none⟩ = some (.pointer (some ⟨db d, n * 3, none⟩)) ∧ W.cell? ⟨qb, 4, none⟩ = some (.int .i64 (p : Nat)) ∧ W.cell? ⟨db d, n * 3, none⟩ = some (.slice (some ⟨pb d n, 0, none⟩) A.S.pages A.S.pages) ∧ W.cell? ⟨ab, 3, none⟩ = some (.int .i64 (A.S.bytes : Nat))) (by kernel_rfl) ?q4a (fun hHeld => ?q4b)
                                                                                  case q4a => (try dsimp only); first | exact hS5.out _ ((Keeps.refl (· = pb d n) w8).drew) | exact hS5.out _ ((Keeps.refl (· = pb d n) w8).drew.alloc _) | exact hS5.out _ (((Keeps.refl (· = pb d n) w8).alloc _).drew) | exact hS5.out _ (((Keeps.refl (· = pb d n) w8).drew.alloc _).setCell (p := ⟨pb d n, p, none⟩) (.inl rfl) _) | exact hS5.out _ ((((Keeps.refl (· = pb d n) w8).alloc _).setCell (p := ⟨pb d n, p, none⟩) (.inl rfl) _).drew)
                                                                                  case q4b =>
                                                                                    refine wpAnyH_take (i := 0) (oi := _) (v := ?q4_1v) rfl (by kernel_rfl) (by kernel_rfl) (by kernel_rfl) (fun _ _ _ h => h) (Or.inl ⟨by rfl, ?q4_1y⟩) (by assumption) ?q4_1r
                                                                                    case q4_1y => (intro w0 hSw; (try dsimp only at hSw); go_simp; try (with_reducible rfl))
                                                                                    case q4_1r =>
                                                                                      simp only [Act.put, List.getElem_toArray, List.getElem_cons_zero, List.setIfInBounds_toArray, List.set_cons_zero, List.set_cons_succ]
                                                                                      refine wpAnyH_take (i := 1) (oi := _) (v := ?q4_2v) rfl (by kernel_rfl) (by kernel_rfl) (by kernel_rfl) (fun _ _ _ h => h) (Or.inl ⟨by rfl, ?q4_2y⟩) (by assumption) ?q4_2r
                                                                                      case q4_2y => (intro w0 hSw; (try dsimp only at hSw); go_simp; try (with_reducible rfl))
                                                                                      case q4_2r =>
                                                                                        simp only [Act.put, List.getElem_toArray, List.getElem_cons_succ, List.getElem_cons_zero, List.setIfInBounds_toArray, List.set_cons_zero, List.set_cons_succ]
                                                                                        refine wpAnyH_take (i := 2) (oi := _) (v := ?q4_3v) rfl (by kernel_rfl) (by kernel_rfl) (by kernel_rfl) (fun _ _ _ h => h) (Or.inl ⟨by rfl, ?q4_3y⟩) (by assumption) ?q4_3r
                                                                                        case q4_3y => (intro w0 hSw; (try dsimp only at hSw); go_simp; try (with_reducible rfl))
                                                                                        case q4_3r =>
                                                                                          simp only [Act.put, List.getElem_toArray, List.getElem_cons_succ, List.getElem_cons_zero, List.setIfInBounds_toArray, List.set_cons_zero, List.set_cons_succ]
                                                                                          refine wpAnyH_take (i := 3) (oi := _) (v := ?q4_4v) rfl (by kernel_rfl) (by kernel_rfl) (by kernel_rfl) (fun _ _ _ h => h) (Or.inl ⟨by rfl, ?q4_4y⟩) (by assumption) ?q4_4r
                                                                                          case q4_4y => (intro w0 hSw; (try dsimp only at hSw); go_simp; try (with_reducible rfl))
                                                                                          case q4_4r =>
                                                                                            simp only [Act.put, List.getElem_toArray, List.getElem_cons_succ, List.getElem_cons_zero, List.setIfInBounds_toArray, List.set_cons_zero, List.set_cons_succ]
                                                                                            refine wpAnyH_take (i := 4) (oi := _) (v := ?q4_5v) rfl (by kernel_rfl) (by kernel_rfl) (by kernel_rfl) (fun _ _ _ h => h) (Or.inl ⟨by rfl, ?q4_5y⟩) (by assumption) ?q4_5r
                                                                                            case q4_5y => (intro w0 hSw; (try dsimp only at hSw); go_simp; try (with_reducible rfl))
                                                                                            case q4_5r =>
                                                                                              simp only [Act.put, List.getElem_toArray, List.getElem_cons_succ, List.getElem_cons_zero, List.setIfInBounds_toArray, List.set_cons_zero, List.set_cons_succ]
                                                                                              refine wpAnyH_take (i := 5) (oi := _) (v := ?q4_6v) rfl (by kernel_rfl) (by kernel_rfl) (by kernel_rfl) (fun _ _ _ h => h) (Or.inl ⟨by rfl, ?q4_6y⟩) (by assumption) ?q4_6r
                                                                                              case q4_6y => (intro w0 hSw; (try dsimp only at hSw); go_simp; try (with_reducible rfl))
                                                                                              case q4_6r =>
                                                                                                simp only [Act.put, List.getElem_toArray, List.getElem_cons_succ, List.getElem_cons_zero, List.setIfInBounds_toArray, List.set_cons_zero, List.set_cons_succ]
                                                                                                refine wpAnyH_take (i := 6) (oi := _) (v := ?q4_7v) rfl (by kernel_rfl) (by kernel_rfl) (by kernel_rfl) (fun _ _ _ h => h) (Or.inl ⟨by rfl, ?q4_7y⟩) (by assumption) ?q4_7r
                                                                                                case q4_7y => (intro w0 hSw; (try dsimp only at hSw); go_simp; try (with_reducible rfl))
                                                                                                case q4_7r =>
                                                                                                  simp only [Act.put, List.getElem_toArray, List.getElem_cons_succ, List.getElem_cons_zero, List.setIfInBounds_toArray, List.set_cons_zero, List.set_cons_succ]
                                                                                                  refine wpAnyH_take (i := 7) (oi := _) (v := ?q4_8v) rfl (by kernel_rfl) (by kernel_rfl) (by kernel_rfl) (fun _ _ _ h => h) (Or.inl ⟨by rfl, ?q4_8y⟩) (by assumption) ?q4_8r
                                                                                                  case q4_8y => (intro w0 hSw; (try dsimp only at hSw); go_simp; try (with_reducible rfl))
                                                                                                  case q4_8r =>
                                                                                                    simp only [Act.put, List.getElem_toArray, List.getElem_cons_succ, List.getElem_cons_zero, List.setIfInBounds_toArray, List.set_cons_zero, List.set_cons_succ]
                                                                                                    refine wpAnyH_take (i := 8) (oi := _) (v := ?q4_9v) rfl (by kernel_rfl) (by kernel_rfl) (by kernel_rfl) (fun _ _ _ h => h) (Or.inl ⟨by rfl, ?q4_9y⟩) (by assumption) ?q4_9r
                                                                                                    case q4_9y => (intro w0 hSw; (try dsimp only at hSw); go_simp; try (with_reducible rfl))
                                                                                                    case q4_9r =>
                                                                                                      simp only [Act.put, List.getElem_toArray, List.getElem_cons_succ, List.getElem_cons_zero, List.setIfInBounds_toArray, List.set_cons_zero, List.set_cons_succ]
                                                                                                      refine wpAnyH_take (i := 9) (oi := _) (v := ?q4_10v) rfl (by kernel_rfl) (by kernel_rfl) (by kernel_rfl) (fun _ _ _ h => h) (Or.inl ⟨by rfl, ?q4_10y⟩) (by assumption) ?q4_10r
                                                                                                      case q4_10y => (intro w0 hSw; (try dsimp only at hSw); go_simp; try (with_reducible rfl))
                                                                                                      case q4_10r =>
                                                                                                        simp only [Act.put, List.getElem_toArray, List.getElem_cons_succ, List.getElem_cons_zero, List.setIfInBounds_toArray, List.set_cons_zero, List.set_cons_succ]
                                                                                                        refine wpAnyH_take (i := 10) (oi := _) (v := ?q4_11v) rfl (by kernel_rfl) (by kernel_rfl) (by kernel_rfl) (fun _ _ _ h => h) (Or.inl ⟨by rfl, ?q4_11y⟩) (by assumption) ?q4_11r
                                                                                                        case q4_11y => (intro w0 hSw; (try dsimp only at hSw); go_simp; try (with_reducible rfl))
                                                                                                        case q4_11r =>
                                                                                                          simp only [Act.put, List.getElem_toArray, List.getElem_cons_succ, List.getElem_cons_zero, List.setIfInBounds_toArray, List.set_cons_zero, List.set_cons_succ]
                                                                                                          refine wpAnyH_take (i := 11) (oi := _) (v := ?q4_12v) rfl (by kernel_rfl) (by kernel_rfl) (by kernel_rfl) (fun _ _ _ h => h) (Or.inl ⟨by rfl, ?q4_12y⟩) (by assumption) ?q4_12r
                                                                                                          case q4_12y => (intro w0 hSw; (try dsimp only at hSw); go_simp; try (with_reducible rfl))
                                                                                                          case q4_12r =>
                                                                                                            simp only [Act.put, List.getElem_toArray, List.getElem_cons_succ, List.getElem_cons_zero, List.setIfInBounds_toArray, List.set_cons_zero, List.set_cons_succ]
                                                                                                            refine wpAnyH_take (i := 12) (oi := _) (v := ?q4_13v) rfl (by kernel_rfl) (by kernel_rfl) (by kernel_rfl) (fun _ _ _ h => h) (Or.inl ⟨by rfl, ?q4_13y⟩) (by assumption) ?q4_13r
                                                                                                            case q4_13y => (intro w0 hSw; (try dsimp only at hSw); go_simp; try (with_reducible rfl))
                                                                                                            case q4_13r =>
                                                                                                              simp only [Act.put, List.getElem_toArray, List.getElem_cons_succ, List.getElem_cons_zero, List.setIfInBounds_toArray, List.set_cons_zero, List.set_cons_succ]
                                                                                                              refine wpAnyH_take (i := 13) (oi := _) (v := ?q4_14v) rfl (by kernel_rfl) (by kernel_rfl) (by kernel_rfl) (fun _ _ _ h => h) (Or.inl ⟨by rfl, ?q4_14y⟩) (by assumption) ?q4_14r
                                                                                                              case q4_14y => (intro w0 hSw; (try dsimp only at hSw); go_simp; try (with_reducible rfl))
                                                                                                              case q4_14r =>
                                                                                                                simp only [Act.put, List.getElem_toArray, List.getElem_cons_succ, List.getElem_cons_zero, List.setIfInBounds_toArray, List.set_cons_zero, List.set_cons_succ]
                                                                                                                refine wpAnyH_take (i := 14) (oi := _) (v := ?q4_15v) rfl (by kernel_rfl) (by kernel_rfl) (by kernel_rfl) (fun _ _ _ h => h) (Or.inl ⟨by rfl, ?q4_15y⟩) (by assumption) ?q4_15r
                                                                                                                case q4_15y => (intro w0 hSw; (try dsimp only at hSw); go_simp; try (with_reducible rfl))
                                                                                                                case q4_15r =>
                                                                                                                  simp only [Act.put, List.getElem_toArray, List.getElem_cons_succ, List.getElem_cons_zero, List.setIfInBounds_toArray, List.set_cons_zero, List.set_cons_succ]
                                                                                                                  refine wpAnyH_take (i := 15) (oi := _) (v := ?q4_16v) rfl (by kernel_rfl) (by kernel_rfl) (by kernel_rfl) (fun _ _ _ h => h) (Or.inl ⟨by rfl, ?q4_16y⟩) (by assumption) ?q4_16r
                                                                                                                  case q4_16y => (intro w0 hSw; (try dsimp only at hSw); go_simp; try (with_reducible rfl))
                                                                                                                  case q4_16r =>
                                                                                                                    simp only [Act.put, List.getElem_toArray, List.getElem_cons_succ, List.getElem_cons_zero, List.setIfInBounds_toArray, List.set_cons_zero, List.set_cons_succ]
                                                                                                                    refine wpAnyH_take (i := 16) (oi := _) (v := ?q4_17v) rfl (by kernel_rfl) (by kernel_rfl) (by kernel_rfl) (fun _ _ _ h => h) (Or.inl ⟨by rfl, ?q4_17y⟩) (by assumption) ?q4_17r
                                                                                                                    case q4_17y => (intro w0 hSw; (try dsimp only at hSw); go_simp; try (with_reducible rfl))
                                                                                                                    case q4_17r =>
                                                                                                                      simp only [Act.put, List.getElem_toArray, List.getElem_cons_succ, List.getElem_cons_zero, List.setIfInBounds_toArray, List.set_cons_zero, List.set_cons_succ]
                                                                                                                      refine wpAnyH_take (i := 17) (oi := _) (v := ?q4_18v) rfl (by kernel_rfl) (by kernel_rfl) (by kernel_rfl) (fun _ _ _ h => h) (Or.inl ⟨by rfl, ?q4_18y⟩) (by assumption) ?q4_18r
                                                                                                                      case q4_18y => (intro w0 hSw; (try dsimp only at hSw); go_simp; try (with_reducible rfl))
                                                                                                                      case q4_18r =>
                                                                                                                        simp only [Act.put, List.getElem_toArray, List.getElem_cons_succ, List.getElem_cons_zero, List.setIfInBounds_toArray, List.set_cons_zero, List.set_cons_succ]
                                                                                                                        refine wpAnyH_take (i := 18) (oi := _) (v := ?q4_19v) rfl (by kernel_rfl) (by kernel_rfl) (by kernel_rfl) (fun _ _ _ h => h) (Or.inl ⟨by rfl, ?q4_19y⟩) (by assumption) ?q4_19r
                                                                                                                        case q4_19y => (intro w0 hSw; (try dsimp only at hSw); go_simp; try (with_reducible rfl))
                                                                                                                        case q4_19r =>
                                                                                                                          simp only [Act.put, List.getElem_toArray, List.getElem_cons_succ, List.getElem_cons_zero, List.setIfInBounds_toArray, List.set_cons_zero, List.set_cons_succ]
                                                                                                                          refine wpAnyH_ready (rs := [19]) (by kernel_rfl) (by simp) ?q4_20g
                                                                                                                          case q4_20g =>
                                                                                                                            refine AllReadyH.cons (o := _) rfl (fun K hK => ?q4_20k) AllReadyH.nil
                                                                                                                            case q4_20k =>
                                                                                                                              go_simp
                                                                                                                              refine hK.out _ _ ?q4_20s (fun hHeld => ?q4_20t)
                                                                                                                              case q4_20s => (try dsimp only); first | exact hS5.out _ ((Keeps.refl (· = pb d n) w8).drew) | exact hS5.out _ ((Keeps.refl (· = pb d n) w8).drew.alloc _) | exact hS5.out _ (((Keeps.refl (· = pb d n) w8).alloc _).drew) | exact hS5.out _ (((Keeps.refl (· = pb d n) w8).drew.alloc _).setCell (p := ⟨pb d n, p, none⟩) (.inl rfl) _) | exact hS5.out _ ((((Keeps.refl (· = pb d n) w8).alloc _).setCell (p := ⟨pb d n, p, none⟩) (.inl rfl) _).drew)
                                                                                                                              case q4_20t =>
                                                                                                                                clear hK K
                                                                                                                                try simp only [Act.put, List.getElem_toArray, List.getElem_cons_succ, List.getElem_cons_zero, List.setIfInBounds_toArray, List.set_cons_zero, List.set_cons_succ]
                                                                                                                                refine wpAnyH_ready (rs := [20]) (by kernel_rfl) (by simp) ?q4_21g
                                                                                                                                case q4_21g =>
                                                                                                                                  refine AllReadyH.cons (o := _) rfl (fun K hK => ?q4_21k) AllReadyH.nil
                                                                                                                                  case q4_21k =>
                                                                                                                                    go_simp
                                                                                                                                    refine hK.out _ _ ?q4_21s (fun hHeld => ?q4_21t)
                                                                                                                                    case q4_21s => (try dsimp only); first | exact hS5.out _ ((Keeps.refl (· = pb d n) w8).drew) | exact hS5.out _ ((Keeps.refl (· = pb d n) w8).drew.alloc _) | exact hS5.out _ (((Keeps.refl (· = pb d n) w8).alloc _).drew) | exact hS5.out _ (((Keeps.refl (· = pb d n) w8).drew.alloc _).setCell (p := ⟨pb d n, p, none⟩) (.inl rfl) _) | exact hS5.out _ ((((Keeps.refl (· = pb d n) w8).alloc _).setCell (p := ⟨pb d n, p, none⟩) (.inl rfl) _).drew)
                                                                                                                                    case q4_21t =>
                                                                                                                                      clear hK K
                                                                                                                                      try simp only [Act.put, List.getElem_toArray, List.getElem_cons_succ, List.getElem_cons_zero, List.setIfInBounds_toArray, List.set_cons_zero, List.set_cons_succ]
                                                                                                                                      refine wpAnyH_ready (rs := [21]) (by kernel_rfl) (by simp) ?q4_22g
                                                                                                                                      case q4_22g =>
                                                                                                                                        refine AllReadyH.cons (o := _) rfl (fun K hK => ?q4_22k) AllReadyH.nil
                                                                                                                                        case q4_22k =>
                                                                                                                                          go_simp
                                                                                                                                          refine hK.out _ _ ?q4_22s (fun hHeld => ?q4_22t)
                                                                                                                                          case q4_22s => (try dsimp only); first | exact hS5.out _ ((Keeps.refl (· = pb d n) w8).drew) | exact hS5.out _ ((Keeps.refl (· = pb d n) w8).drew.alloc _) | exact hS5.out _ (((Keeps.refl (· = pb d n) w8).alloc _).drew) | exact hS5.out _ (((Keeps.refl (· = pb d n) w8).drew.alloc _).setCell (p := ⟨pb d n, p, none⟩) (.inl rfl) _) | exact hS5.out _ ((((Keeps.refl (· = pb d n) w8).alloc _).setCell (p := ⟨pb d n, p, none⟩) (.inl rfl) _).drew)
                                                                                                                                          case q4_22t =>
                                                                                                                                            clear hK K
                                                                                                                                            try simp only [Act.put, List.getElem_toArray, List.getElem_cons_succ, List.getElem_cons_zero, List.setIfInBounds_toArray, List.set_cons_zero, List.set_cons_succ]
                                                                                                                                            refine wpAnyH_done (by kernel_rfl) ?q4z _
                                                                                                                                            case q4z =>
                                                                                                                                              go_wp2_with fail
                                                                                                                                              go_ret
                                                                                                                                              rw [← hA2'.out]
                                                                                                                                              rw [show A.progMid op d n p = A.progBad d n p from if_pos hbad'.out]
                                                                                                                                              exact bad_end hN5.out hok'.out hd hn hp kO.out hk5.out
                                                                                | false =>
                                                                                  have hk5 := Lib.hid (((Keeps.refl Nil w3).drew.trans hk9'.out).trans hk8'.out)
                                                                                  have hN5 := Lib.hid (hN3'.out.keeps hk5.out (fun _ _ h => h))
                                                                                  clear f0 f2 f3
                                                                                  go_wp2_with fail
                                                                                  go_ret
                                                                                  rw [← hA2'.out]
                                                                                  rw [show A.progMid op d n p = A.setB d n ((A.B d n).at ((p : Int) + 1)) from if_neg (by rw [hbad'.out]; decide)]
                                                                                  exact ⟨rfl, L, O, hN5.out, kO.out.trans (hk5.out.mono (fun _ h => h.elim)), fun k hk => .inl hk⟩
end Go.Proofs.Ytglpacdenfoicaa
