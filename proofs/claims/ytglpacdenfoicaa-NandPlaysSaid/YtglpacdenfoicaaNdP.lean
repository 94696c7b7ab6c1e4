/- nand: Erase -/
import Derived.Test.YtglpacdenfoicaaNdN
namespace Go.Proofs.Ytglpacdenfoicaa
open Go.RowKit

variable {w w' : World} {ab bb bc fc : Nat} {db : Nat → Nat} {pb : Nat → Nat → Nat} {fa : Option Addr} {L : List Fx} {A A' : Nd} {O T : Nat → Prop}
/-- what a call of the array leaves -/
def NdOut (w : World) (ab : Nat) (O : Nat → Prop) (r : Ending) (A' : Nd) (e : Ending) (w' : World) : Prop :=
  e = r ∧ ∃ O', NdAt w' ab A' O' ∧ Keeps O w w' ∧ ∀ k, O' k → O k ∨ w.heap.size ≤ k
theorem Leaves.out {w0 : World} {X : World → (Nat → Prop) → Prop} {r e : Ending} (hk : Keeps Nil w0 w) (h : Leaves w ab bb bc db pb fa fc O (fun _ => False) X r A' e w') : NdOut w0 ab O r A' e w' := by
  obtain ⟨h1, L', O', h2, h3, h4, _⟩ := h
  refine ⟨h1, O', ⟨bb, bc, db, pb, fa, fc, L', h2⟩, (hk.mono (fun _ h => h.elim)).trans (h3.mono (fun k hk => hk.elim id (fun h => h.elim))), fun k hk2 => (h4 k hk2).imp id (fun h => Nat.le_trans hk.size h)⟩
theorem Step.leaves {r e : Ending} (h : Step w ab bb bc db pb fa fc O r A' e w') : Leaves w ab bb bc db pb fa fc O (fun _ => False) (fun _ _ => True) r A' e w' := by
  obtain ⟨h1, L', O', h2, h3, h4⟩ := h
  exact ⟨h1, L', O', h2, h3.mono (fun _ h => .inl h), h4, trivial⟩
def Nd.tickE (A : Nd) : Nd := { A with ops := A.ops + 1, erases := A.erases + 1 }
def Nd.tickP (A : Nd) : Nd := { A with ops := A.ops + 1, programs := A.programs + 1 }
def Nd.tickR (A : Nd) : Nd := { A with ops := A.ops + 1, reads := A.reads + 1 }
theorem counterE {b : Nat} (h : A.Lt b) (hb : b ≤ 1000000) : Counter A A.tickE 10 A.erases :=
  ⟨by decide, fun _ _ _ _ _ => ⟨rfl, rfl⟩, rfl, rfl, rfl, Nat.le_trans h.erases hb, rfl, rfl⟩
theorem counterP {b : Nat} (h : A.Lt b) (hb : b ≤ 1000000) : Counter A A.tickP 9 A.programs :=
  ⟨by decide, fun _ _ _ _ _ => ⟨rfl, rfl⟩, rfl, rfl, rfl, Nat.le_trans h.programs hb, rfl, rfl⟩
theorem counterR {b : Nat} (h : A.Lt b) (hb : b ≤ 1000000) : Counter A A.tickR 8 A.reads :=
  ⟨by decide, fun _ _ _ _ _ => ⟨rfl, rfl⟩, rfl, rfl, rfl, Nat.le_trans h.reads hb, rfl, rfl⟩
theorem eraseW_fails (A : Nd) (op : Int) (d n : Nat) : (A.eraseW op d n).2.fails = A.fails := by unfold Nd.eraseW; split <;> rfl
theorem progW_fails (A : Nd) (op : Int) (d n p : Nat) (l : List Int) : (A.progW op d n p l).2.fails = A.fails := by unfold Nd.progW; split <;> rfl
theorem enter38 (args : Array Value) (w : World) : (callFunc 38 args).run Try.prog w = .ok (.enter 38 args) w := by kernel_rfl
theorem enter39 (args : Array Value) (w : World) : (callFunc 39 args).run Try.prog w = .ok (.enter 39 args) w := by kernel_rfl
set_option maxHeartbeats 4000000 in
set_option maxRecDepth 100000 in
theorem erase16 {d n b : Nat} (h : NdB w ab A bb bc db pb fa fc L O) (hok : A.Ok) (hlt : A.Lt b) (hb : b ≤ 1000000) (hoff : A.off = false) (hd : d < A.S.dies) (hn : n < A.S.blocks) :
    Calls Try.prog 16 #[.pointer (some ⟨ab, 0, none⟩), .int .i64 (d : Nat), .int .i64 (n : Nat)] w (NdOut w ab O (.returned (.int .i64 (A.erase d n).1)) (A.erase d n).2) := by
  have hmf : ∀ (fn : Fn) (first cap : Array Value) (w : World), (Instr.makeFunc fn first cap).run Try.prog w = .ok (.func fn first cap) w := fun _ _ _ _ => rfl
  have hAt := Lib.hid (at_in h hd hn)
  have c6 := h.cell 6
  simp only [ndCells, List.getElem?_toArray, List.getElem?_cons_zero, List.getElem?_cons_succ] at c6
  rw [hoff] at c6
  have ha := (Keeps.refl Nil w).alloc (.cells (ersCells ab (db d) (n * 3) d n) 102)
  have hq := heap_alloc_new w (.cells (ersCells ab (db d) (n * 3) d n) 102)
  have hqO : ¬ O w.heap.size := fun e => by have := h.lt _ e; omega
  have hqab : ¬ w.heap.size = ab := fun e => hqO (by rw [e]; exact h.ownA)
  have hok1 : A.tickE.Ok := ⟨hok.S, hok.F, hok.len, hok.pages⟩
  have hokc : (A.tickE.offCut A.cuts).Ok := ⟨hok.S, hok.F, hok.len, hok.pages⟩
  have her : (A.B d n).er ≤ 1000000 := Nat.le_trans (hlt.er d n) hb
  have hD := do29 (d := d) (n := n) (f1 := #[.pointer (some ⟨w.heap.size, 0, none⟩)]) (f2 := #[.pointer (some ⟨w.heap.size, 0, none⟩)]) (c1 := #[]) (c2 := #[]) (whole := Nd.eraseW A.ops d n) (part := Nd.eraseP A.ops d n) (Z := fun _ => False) (X := fun _ _ => True)
    (h.keeps ha (fun _ _ h => h)) hok ⟨Nat.le_trans hlt.ops hb, Nat.le_trans hlt.cuts hb⟩ (counterE hlt hb) (by rw [eraseW_fails]; exact Nat.le_trans hlt.fails hb) enter38 enter39
    (fun W hW hk => (whole38 hW hok1 hd hn her (hk.heap hq hqab) hqO).mono fun _ _ h => h.leaves)
    (fun W pt hW hk => (part39 hW hokc hd hn her (hk.heap hq hqab) hqO).mono fun _ _ h => h.leaves)
    (fun _ _ _ _ _ => trivial)
  rw [show A.doOp A.tickE d (Nd.eraseW A.ops d n) (Nd.eraseP A.ops d n) = A.erase d n from rfl] at hD
  obtain ⟨r, hr⟩ : ∃ r, A.erase d n = r := ⟨_, rfl⟩
  rw [hr] at hD ⊢
  have hD' := Lib.hid hD
  have ha' := Lib.hid ha
  clear h hok hlt hoff hq hqO hqab hok1 hokc her hD ha hr
  go_enter Try.func16, Try.ntmps16
  go_wp2_with fail
  refine (hAt.out).mono ?_
  rintro e w1 ⟨rfl, hw1⟩
  rw [hw1]
  clear hw1
  go_wp2_with fail
  refine (hD'.out).mono ?_
  intro e w5 hE
  have hE' := Lib.hid (hE.out ha'.out)
  obtain ⟨rfl, _⟩ := hE
  go_wp2_with fail
  go_ret
  exact hE'.out
theorem enter30 (args : Array Value) (w : World) : (callFunc 30 args).run Try.prog w = .ok (.enter 30 args) w := by kernel_rfl
theorem enter31 (args : Array Value) (w : World) : (callFunc 31 args).run Try.prog w = .ok (.enter 31 args) w := by kernel_rfl
set_option maxHeartbeats 4000000 in
set_option maxRecDepth 100000 in
theorem prog13 {d n p b : Nat} {xa : Option Addr} {xc : Nat} {l : List Int} (h : NdB w ab A bb bc db pb fa fc L O) (hok : A.Ok) (hlt : A.Lt b) (hb : b ≤ 1000000) (hoff : A.off = false) (hd : d < A.S.dies) (hn : n < A.S.blocks) (hp : p < A.S.pages) (hnx : (A.B d n).next = (p : Int))
    (hx : NumsAt .u8 w xa l) (hxO : ∀ g, blk xa = some g → ¬ O g) (hl : l.length = A.S.bytes) (hxc : l.length ≤ xc) :
    Calls Try.prog 13 #[.pointer (some ⟨ab, 0, none⟩), .int .i64 (d : Nat), .int .i64 (n : Nat), .int .i64 (p : Nat), .slice xa l.length xc] w (NdOut w ab O (.returned (.int .i64 (A.prog d n p l).1)) (A.prog d n p l).2) := by
  have hmf : ∀ (fn : Fn) (first cap : Array Value) (w : World), (Instr.makeFunc fn first cap).run Try.prog w = .ok (.func fn first cap) w := fun _ _ _ _ => rfl
  have hAt := Lib.hid (at_in h hd hn)
  have c6 := h.cell 6
  have c2 := h.cell 2
  have c3 := h.cell 3
  obtain ⟨_, d1, _, _⟩ := h.cellD hd hn
  simp only [ndCells, List.getElem?_toArray, List.getElem?_cons_zero, List.getElem?_cons_succ] at c6 c2 c3
  rw [hoff] at c6
  rw [← hl] at c3
  rw [hnx] at d1
  have ha := (Keeps.refl Nil w).alloc (.cells (pgrCells ab (db d) (n * 3) d n p xa l.length xc) 87)
  have hq := heap_alloc_new w (.cells (pgrCells ab (db d) (n * 3) d n p xa l.length xc) 87)
  have hqO : ¬ O w.heap.size := fun e => by have := h.lt _ e; omega
  have hqab : ¬ w.heap.size = ab := fun e => hqO (by rw [e]; exact h.ownA)
  have hok1 : A.tickP.Ok := ⟨hok.S, hok.F, hok.len, hok.pages⟩
  have hokc : (A.tickP.offCut A.cuts).Ok := ⟨hok.S, hok.F, hok.len, hok.pages⟩
  have hOab := h.ownA
  have hD := do29 (d := d) (n := n) (f1 := #[.pointer (some ⟨w.heap.size, 0, none⟩)]) (f2 := #[.pointer (some ⟨w.heap.size, 0, none⟩)]) (c1 := #[]) (c2 := #[]) (whole := Nd.progW A.ops d n p l) (part := Nd.progP A.ops d n p l) (Z := fun _ => False) (X := fun _ _ => True)
    (h.keeps ha (fun _ _ h => h)) hok ⟨Nat.le_trans hlt.ops hb, Nat.le_trans hlt.cuts hb⟩ (counterP hlt hb) (by rw [progW_fails]; exact Nat.le_trans hlt.fails hb) enter30 enter31
    (fun W hW hk => (whole30 hW hok1 hd hn hp (hk.heap hq hqab) hqO ((hx.keeps ha (fun _ _ h => h)).keeps hk (fun g hg e => hxO g hg (by rw [e]; exact hOab))) hxO hl).mono fun _ _ h => h.leaves)
    (fun W pt hW hk => (part31 hW hokc hd hn hp (hk.heap hq hqab) hqO ((hx.keeps ha (fun _ _ h => h)).keeps hk (fun g hg e => hxO g hg (by rw [e]; exact hOab))) hxO hl hxc).mono fun _ _ h => h.leaves)
    (fun _ _ _ _ _ => trivial)
  rw [show A.doOp A.tickP d (Nd.progW A.ops d n p l) (Nd.progP A.ops d n p l) = A.prog d n p l from rfl] at hD
  obtain ⟨r, hr⟩ : ∃ r, A.prog d n p l = r := ⟨_, rfl⟩
  rw [hr] at hD ⊢
  have hD' := Lib.hid hD
  have ha' := Lib.hid ha
  have x0 : ¬ ((p : Int) < 0) := by omega
  clear h hok hlt hoff hq hqO hqab hok1 hokc hD ha hr hx hxO hl hnx hOab
  go_enter Try.func13, Try.ntmps13
  go_wp2_with fail
  refine (hAt.out).mono ?_
  rintro e w1 ⟨rfl, hw1⟩
  rw [hw1]
  clear hw1
  go_wp2_with fail
  refine (hD'.out).mono ?_
  intro e w5 hE
  have hE' := Lib.hid (hE.out ha'.out)
  obtain ⟨rfl, _⟩ := hE
  go_wp2_with fail
  go_ret
  exact hE'.out
end Go.Proofs.Ytglpacdenfoicaa
