/- small general lemmas on worlds: what stays between two worlds. -/
import Derived.WalkKit
import Derived.WalkSpells
import Derived.WalkLawsBesides
import Derived.Deep.QuietTactic
import Derived.BigQuiet
import Derived.Lib.Hide
import Derived.Deep.DeepMust
import Derived.Laws.CopyOwn
import Derived.Deep.RegionHeld3
import Derived.Deep.DrawnRows
namespace Go.Proofs.Ytglpacdenfoicaa
open Go.RowKit

theorem ret_int {k : IntKind} {a b : Int} (h : a = b) : Ending.returned (.int k a) = .returned (.int k b) := by rw [h]
theorem ret_bool {a b : Bool} (h : a = b) : Ending.returned (.bool a) = .returned (.bool b) := by rw [h]

/-- Between w and w' of w's blocks those of S alone may have turned. -/
structure Keeps (S : Nat → Prop) (w w' : World) : Prop where
  os : w'.os = w.os
  tape : w'.tape = w.tape
  output : w'.output = w.output
  size : w.heap.size ≤ w'.heap.size
  block : ∀ k, k < w.heap.size → ¬ S k → w'.heap[k]? = w.heap[k]?

def Nil : Nat → Prop := fun _ => False

theorem Keeps.refl (S : Nat → Prop) (w : World) : Keeps S w w := ⟨rfl, rfl, rfl, Nat.le_refl _, fun _ _ _ => rfl⟩
theorem Keeps.trans' {S T : Nat → Prop} {a b c : World} (h : Keeps S a b) (k : Keeps T b c) (hs : ∀ j, T j → S j ∨ a.heap.size ≤ j) : Keeps S a c :=
  ⟨k.os.trans h.os, k.tape.trans h.tape, k.output.trans h.output, Nat.le_trans h.size k.size, fun i hi hn =>
    (k.block i (Nat.lt_of_lt_of_le hi h.size) (fun ht => by rcases hs i ht with h1 | h1; exact hn h1; omega)).trans (h.block i hi hn)⟩
theorem Keeps.trans {S : Nat → Prop} {a b c : World} (h : Keeps S a b) (k : Keeps S b c) : Keeps S a c := h.trans' k (fun _ h => Or.inl h)
theorem Keeps.mono {S T : Nat → Prop} {a b : World} (h : Keeps S a b) (hs : ∀ j, S j → T j) : Keeps T a b :=
  ⟨h.os, h.tape, h.output, h.size, fun i hi hn => h.block i hi (fun hk => hn (hs i hk))⟩
theorem Keeps.drew {S : Nat → Prop} {a w : World} (h : Keeps S a w) : Keeps S a w.drew := ⟨h.os, h.tape, h.output, h.size, h.block⟩
theorem Keeps.drewN {S : Nat → Prop} {a w : World} (h : Keeps S a w) (n : Nat) : Keeps S a (w.drewN n) := ⟨h.os, h.tape, h.output, h.size, h.block⟩
theorem Keeps.alloc {S : Nat → Prop} {a w : World} (h : Keeps S a w) (o : Obj) : Keeps S a (w.alloc o) :=
  ⟨h.os, h.tape, h.output, Nat.le_trans h.size (by simp), fun i hi hn => (Below.heap_alloc w o i (Nat.lt_of_lt_of_le hi h.size)).trans (h.block i hi hn)⟩
theorem Keeps.setCell {S : Nat → Prop} {a w : World} (h : Keeps S a w) {p : Addr} (hp : S p.block ∨ a.heap.size ≤ p.block) (u : Value) : Keeps S a (w.setCell p u) :=
  ⟨h.os, h.tape, h.output, by simpa [World.setCell] using h.size, fun i hi hn => (Below.heap_setCell w p u i (by
    rintro rfl
    rcases hp with hp | hp
    · exact hn hp
    · omega)).trans (h.block i hi hn)⟩
theorem Keeps.below {w w' : World} (h : Keeps Nil w w') : Below w.heap.size w w' := ⟨h.os, h.tape, h.output, h.size, fun k hk => h.block k hk (fun h => h)⟩
theorem Keeps.of_below {w w' : World} (h : Below w.heap.size w w') : Keeps Nil w w' := ⟨h.os, h.tape, h.output, h.size, fun k hk _ => h.block k hk⟩
theorem Keeps.cell {S : Nat → Prop} {w w' : World} (h : Keeps S w w') {b o : Nat} {v : Value} (hc : w.cell? ⟨b, o, none⟩ = some v) (hn : ¬ S b) : w'.cell? ⟨b, o, none⟩ = some v := by
  have hb : b < w.heap.size := by
    by_cases hb : b < w.heap.size
    · exact hb
    · simp [World.cell?, Array.getElem?_eq_none (Nat.le_of_not_lt hb)] at hc
  rw [← hc]
  exact World.cell?_of_block (w := w) (a := ⟨b, o, none⟩) (h.block b hb hn)
theorem Keeps.frozen {S : Nat → Prop} {w w' : World} (h : Keeps S w w') {b o : Nat} {f : Bool} (hc : w.frozen? ⟨b, o, none⟩ = f) (hb : b < w.heap.size) (hn : ¬ S b) : w'.frozen? ⟨b, o, none⟩ = f := by
  rw [← hc]
  exact World.frozen?_of_block (w := w) (a := ⟨b, o, none⟩) (h.block b hb hn)
theorem lt_of_cell {w : World} {b o : Nat} {v : Value} (hc : w.cell? ⟨b, o, none⟩ = some v) : b < w.heap.size := by
  by_cases hb : b < w.heap.size
  · exact hb
  · simp [World.cell?, Array.getElem?_eq_none (Nat.le_of_not_lt hb)] at hc
theorem lt_of_heap {w : World} {b : Nat} {o : Obj} (hc : w.heap[b]? = some o) : b < w.heap.size := by
  by_cases hb : b < w.heap.size
  · exact hb
  · rw [Array.getElem?_eq_none (Nat.le_of_not_lt hb)] at hc; cases hc
theorem Keeps.heap {S : Nat → Prop} {w w' : World} (h : Keeps S w w') {b : Nat} {o : Obj} (hc : w.heap[b]? = some o) (hn : ¬ S b) : w'.heap[b]? = some o :=
  (h.block b (lt_of_heap hc) hn).trans hc
theorem cell_of_heap {w : World} {b : Nat} {c : Array Value} {t : TypeId} {f : Nat × Nat} (h : w.heap[b]? = some (.cells c t f)) (o : Nat) : w.cell? ⟨b, o, none⟩ = c[o]? := by
  simp [World.cell?, h]
theorem frozen_of_heap {w : World} {b : Nat} {c : Array Value} {t : TypeId} (h : w.heap[b]? = some (.cells c t (0, 0))) (o : Nat) : w.frozen? ⟨b, o, none⟩ = false := by
  simp [World.frozen?, h]
theorem heap_setCell_same {w : World} {b : Nat} {c : Array Value} {t : TypeId} {f : Nat × Nat} (h : w.heap[b]? = some (.cells c t f)) (o : Nat) (v : Value) :
    (w.setCell ⟨b, o, none⟩ v).heap[b]? = some (.cells (c.setIfInBounds o v) t f) := by
  simp [World.setCell, Array.getElem?_modify, h]
theorem heap_setCell_other {w : World} {b b' o : Nat} {v : Value} (h : b ≠ b') : (w.setCell ⟨b', o, none⟩ v).heap[b]? = w.heap[b]? :=
  Below.heap_setCell _ _ _ _ h
theorem heap_alloc_new (w : World) (o : Obj) : (w.alloc o).heap[w.heap.size]? = some o := by
  show (w.heap.push o)[w.heap.size]? = _
  simp
theorem heap_alloc_old {w : World} {b : Nat} {o o' : Obj} (h : w.heap[b]? = some o) : (w.alloc o').heap[b]? = some o := by
  rw [Below.heap_alloc _ _ _ (lt_of_heap h)]; exact h

/-- element j, or 0 -/
def gi (l : List Int) (j : Nat) : Int := l.getD j 0
def gb (l : List Bool) (j : Nat) : Bool := l.getD j false
theorem gi_eq {l : List Int} {j : Nat} (h : j < l.length) : gi l j = l[j] := by simp [gi, List.getD, h]
theorem gb_eq {l : List Bool} {j : Nat} (h : j < l.length) : gb l j = l[j] := by simp [gb, List.getD, h]
theorem gb_out {l : List Bool} {j : Nat} (h : l.length ≤ j) : gb l j = false := by simp [gb, List.getD, List.getElem?_eq_none h]

/-- The slice at a reads as the list of bools bs. -/
def BoolsAt (w : World) (a : Option Addr) (bs : List Bool) : Prop :=
  ∀ j, j < bs.length → ∃ b off, a = some ⟨b, off, none⟩ ∧ w.cell? ⟨b, off + j, none⟩ = some (.bool (gb bs j))
theorem BoolsAt.keeps {S : Nat → Prop} {w w' : World} {a : Option Addr} {bs : List Bool} (h : BoolsAt w a bs) (hk : Keeps S w w') (hn : ∀ b off, a = some ⟨b, off, none⟩ → ¬ S b) : BoolsAt w' a bs :=
  fun j hj => let ⟨b, off, e, hc⟩ := h j hj; ⟨b, off, e, hk.cell hc (hn b off e)⟩
/-- The slice at a reads as the list of numbers xs. -/
def IntsAt (w : World) (a : Option Addr) (xs : List Int) : Prop :=
  ∀ j, j < xs.length → ∃ b off, a = some ⟨b, off, none⟩ ∧ w.cell? ⟨b, off + j, none⟩ = some (.int .i64 (gi xs j))
theorem IntsAt.keeps {S : Nat → Prop} {w w' : World} {a : Option Addr} {xs : List Int} (h : IntsAt w a xs) (hk : Keeps S w w') (hn : ∀ b off, a = some ⟨b, off, none⟩ → ¬ S b) : IntsAt w' a xs :=
  fun j hj => let ⟨b, off, e, hc⟩ := h j hj; ⟨b, off, e, hk.cell hc (hn b off e)⟩

def blk (a : Option Addr) : Option Nat := a.map (·.block)
/-- The slice (a, n, cap) is the call's own row and holds xs (n elements of 'size' cells each). -/
def RowAt (w : World) (e : TypeId) (size : Nat) (a : Option Addr) (n cap : Nat) (xs : List Value) : Prop := w.ownsRow 0 e size (.slice a n cap) n xs
/-- The slice at a, of m elements, reads as the cells news. -/
def Src (w : World) (a : Option Addr) (size m : Nat) (news : List Value) : Prop :=
  news.length = m * size ∧ (a = none → m = 0) ∧ ∀ ad, a = some ad → ∀ j u, news[j]? = some u → w.cell? (ad.add j) = some u

theorem RowAt.keeps {S : Nat → Prop} {w w' : World} {e : TypeId} {size n cap : Nat} {a : Option Addr} {xs : List Value} (h : RowAt w e size a n cap xs) (hk : Keeps S w w') (hn : ∀ g, blk a = some g → ¬ S g) : RowAt w' e size a n cap xs := by
  refine ⟨h.1, ?_⟩
  rcases h.2 with h2 | ⟨g, cap', cur, hv, hb, hg, r⟩
  · exact .inl h2
  · refine .inr ⟨g, cap', cur, hv, hb, hk.heap hg (hn g ?_), r⟩
    simp only [Value.slice.injEq] at hv
    simp [blk, hv.1]
theorem RowAt.nil (w : World) (e : TypeId) (size : Nat) : RowAt w e size none 0 0 [] := World.ownsRow_nil w 0 e size
theorem RowAt.lt {w : World} {e : TypeId} {size n cap : Nat} {a : Option Addr} {xs : List Value} (h : RowAt w e size a n cap xs) {g : Nat} (hg : blk a = some g) : g < w.heap.size := by
  rcases h.2 with ⟨h2, _⟩ | ⟨g', cap', cur, hv, hb, hh, r⟩
  · simp only [Value.slice.injEq] at h2; simp [blk, h2.1] at hg
  · simp only [Value.slice.injEq] at hv; simp only [blk, hv.1, Option.map_some, Option.some.injEq] at hg; subst hg; exact lt_of_heap hh
theorem RowAt.form {w : World} {e : TypeId} {size n cap : Nat} {a : Option Addr} {xs : List Value} (h : RowAt w e size a n cap xs) :
    (a = none ∧ n = 0 ∧ cap = 0) ∨ ∃ g cur, a = some ⟨g, 0, none⟩ ∧ n ≤ cap ∧ w.heap[g]? = some (.cells cur e (0, 0)) ∧ cur.size = cap * size ∧ cur.toList.take (n * size) = xs := by
  rcases h.2 with ⟨h2, _⟩ | ⟨g, cap', cur, hv, hb, hh, r1, r2, r3, r4⟩
  · simp only [Value.slice.injEq] at h2; exact .inl ⟨h2.1, h2.2.1, h2.2.2⟩
  · simp only [Value.slice.injEq] at hv
    obtain ⟨h1, _, h3⟩ := hv
    subst h1; subst h3
    exact .inr ⟨g, cur, rfl, r1, hh, r3, r4⟩
theorem RowAt.src {w : World} {e : TypeId} {size n cap : Nat} {a : Option Addr} {xs : List Value} (h : RowAt w e size a n cap xs) : Src w a size n xs := by
  refine ⟨h.1, ?_, ?_⟩
  · intro ha
    rcases h.form with ⟨_, h2, _⟩ | ⟨g, cur, h2, _⟩
    · exact h2
    · rw [h2] at ha; cases ha
  · intro ad ha
    subst ha
    rcases h.form with ⟨h1, _, _⟩ | ⟨g, cur, h2, _⟩
    · cases h1
    · cases h2; exact h.cells (g := g) rfl

theorem Src.keeps {w w' : World} {a : Option Addr} {size m : Nat} {news : List Value} (h : Src w a size m news) (hk : Keeps Nil w w') : Src w' a size m news := by
  refine ⟨h.1, h.2.1, fun ad ha j u hu => ?_⟩
  have hc := h.2.2 ad ha j u hu
  have hb : (ad.add j).block < w.heap.size := by
    by_cases hb : (ad.add j).block < w.heap.size
    · exact hb
    · simp [World.cell?, Array.getElem?_eq_none (Nat.le_of_not_lt hb)] at hc
  rw [← hc]
  exact World.cell?_of_block (w := w) (hk.block _ hb (fun h => h))

theorem src_one {w : World} {b : Nat} {v : Value} (h : w.cell? ⟨b, 0, none⟩ = some v) : Src w (some ⟨b, 0, none⟩) 1 1 [v] := by
  refine ⟨rfl, (fun h => by cases h), fun ad ha j u hu => ?_⟩
  cases ha
  match j, hu with
  | 0, hu => simp at hu; subst hu; rw [Addr.add_lit]; exact h
  | j + 1, hu => simp at hu
theorem cell_new1 (w : World) (v : Value) (t : TypeId) : (w.alloc (.cells #[v] t)).cell? ⟨w.heap.size, 0, none⟩ = some v := by
  rw [World.cell?_alloc_at _ _ _ _ rfl]; rfl

section
variable {P : Program} (w : World)
theorem run_app (t ty e : TypeId) (i : TypeInfo) (z : Value) (size bytes : Nat) (ht : P.underlying t = some (.slice e)) (hi : P.info? e = some i) (hz : i.zero = some z)
    (hsize : i.size = size) (hby : i.bytes = bytes) (hzs : z.cells.size = size) (hsz : 0 < size)
    {a : Option Addr} {n cap : Nat} {xs : List Value} (hown : RowAt w e size a n cap xs)
    {b : Option Addr} {m c : Nat} {news : List Value} (hsrc : Src w b size m news) (hnil : b = none → c = 0) (h1 : ∀ u ∈ news, u.oneCell' = true)
    (h63 : n + m ≤ maxLen) (hbytes : (n + m) * bytes ≤ 140737488355328) :
    ∃ a' cap' w', (Builtin.append_ #[t, t] ty #[.slice a n cap, .slice b m c]).run P w = .ok (.slice a' (n + m) cap') w' ∧ RowAt w' e size a' (n + m) cap' (xs ++ news) ∧ Keeps (fun k => blk a = some k) w w' ∧
      (blk a' = blk a ∨ blk a' = some w.heap.size ∧ w.heap.size < w'.heap.size) := by
  obtain ⟨hl, hb0, hnews⟩ := hsrc
  cases b with
  | none =>
    obtain rfl := hb0 rfl
    obtain rfl := hnil rfl
    have hn : news = [] := List.eq_nil_of_length_eq_zero (by simpa using hl)
    subst hn
    exact ⟨a, cap, w, by simpa using run_append_owned_none (P := P) (w := w) 0 t ty e i size ht hi _ n xs hown, by simpa using hown, Keeps.refl _ _, .inl rfl⟩
  | some ad =>
    obtain ⟨v', w', hr, h2, h3, h4⟩ := run_append_own (P := P) w 0 t ty e i z size bytes ht hi hz hsize hby hzs hsz _ n xs hown ad m c news hl (hnews ad rfl) h1 h63 hbytes (Nat.zero_le _)
    have hk : Keeps (fun k => blk a = some k) w w' := ⟨h3.os, h3.tape, h3.output, h3.size, fun k hk hn => h3.block k hk (fun e => hn (by
      cases a with
      | none => simp [Value.ownBlock] at e
      | some x => simp only [Value.ownBlock, Option.some.injEq] at e; simp [blk, e]))⟩
    rcases h2.2 with ⟨rfl, hn⟩ | ⟨g, cap', cur, rfl, r⟩
    · refine ⟨none, 0, w', ?_, ?_, hk, ?_⟩
      · rw [hr, hn]
      · unfold RowAt; rw [hn] at h2 ⊢; exact h2
      · obtain ⟨h5, _⟩ := h4.1 rfl
        simp only [Value.slice.injEq] at h5
        exact .inl (by rw [h5.1])
    · refine ⟨some ⟨g, 0, none⟩, cap', w', hr, h2, hk, ?_⟩
      by_cases hroom : n + m ≤ cap
      · rcases hown.form with ⟨ha, hn0, hc⟩ | ⟨g', cur', ha, hnc, hh, hcs, htake⟩
        · exfalso
          have hm0 : m = 0 := by omega
          have h5 := h4.2 ⟨by rw [ha, hn0, hc], hm0⟩
          cases h5
        · subst ha
          subst hsize
          have hr' := run_append_room (P := P) w t ty e i ht hi g' n cap cur' hh ad m c news hl (hnews ad rfl) h1 hroom (by rw [hl, hcs, ← Nat.add_mul]; exact Nat.mul_le_mul_right _ hroom)
          rw [hr'] at hr
          injection hr with e1 e2
          simp only [Value.slice.injEq] at e1
          left; rw [← e1.1]
      · have hd : ∀ (x : Nat) (W : World) (o : Obj) (n' : Nat), (Result.ok (Value.slice (some ⟨w.heap.size, 0, none⟩) n' x) (w.drew.alloc o) : Result Value) = .ok (.slice (some ⟨g, 0, none⟩) (n + m) cap') w' → blk (some ⟨g, 0, none⟩) = some w.heap.size ∧ w.heap.size < w'.heap.size := by
          intro x W o n' h
          injection h with e1 e2
          simp only [Value.slice.injEq, Option.some.injEq, Addr.mk.injEq] at e1
          refine ⟨by simp [blk, ← e1.1.1], ?_⟩
          rw [← e2]; simp
        subst hsize
        subst hby
        have hsmall : n + m ≤ 9223372036854775807 := by simp only [maxLen] at h63; omega
        right
        rcases hown.form with ⟨ha, hn0, hc⟩ | ⟨g', cur', ha, hnc, hh, hcs, htake⟩
        · subst ha; subst hn0; subst hc
          have hr' := run_append_nil (P := P) w t ty e i z ht hi hz ad m c news hl (hnews ad rfl) (by omega) (by omega) (by have hb := hbytes; simp only [Nat.zero_add] at hb; omega)
          rw [hr'] at hr
          exact hd _ w _ _ hr
        · subst ha
          have holds : ∀ j u, xs[j]? = some u → w.cell? ((⟨g', 0, none⟩ : Addr).add j) = some u := hown.cells (g := g') rfl
          have hr' := run_append_grow (P := P) w t ty e i z ht hi hz ⟨g', 0, none⟩ n cap xs hown.1 holds ad m c news hl (hnews ad rfl) (by omega) (by omega) (growslice_fits (by omega) hbytes)
          rw [hr'] at hr
          exact hd _ w _ _ hr

theorem wpList_app {ops : Array Oper} {rest : List Oper} {o : Oper} {a : Act} {Q : Exit → Act → World → Prop} (hgd : o.guard = none) (s x : Operand) (t : TypeId)
    (ho : o.op = .call { callee := .builtin .append, args := #[s, x], argTypes := #[t, t] })
    (e : TypeId) (i : TypeInfo) (z : Value) (size bytes : Nat) (ht : P.underlying t = some (.slice e)) (hi : P.info? e = some i) (hz : i.zero = some z)
    (hsize : i.size = size) (hby : i.bytes = bytes) (hzs : z.cells.size = size) (hsz : 0 < size)
    (ar : Option Addr) (n cap : Nat) (xs : List Value) (hs : a.eval s = .slice ar n cap) (b : Option Addr) (m c : Nat) (news : List Value) (hx : a.eval x = .slice b m c)
    (h : ∀ a' cap' w', RowAt w' e size a' (n + m) cap' (xs ++ news) → Keeps (fun k => blk ar = some k) w w' → (blk a' = blk ar ∨ blk a' = some w.heap.size ∧ w.heap.size < w'.heap.size) → wpList P ops Q rest (a.put o.dst (.slice a' (n + m) cap')) w')
    (hown : RowAt w e size ar n cap xs) (hsrc : Src w b size m news) (hnil : b = none → c = 0) (h1 : ∀ u ∈ news, u.oneCell' = true)
    (h63 : n + m ≤ maxLen) (hbytes : (n + m) * bytes ≤ 140737488355328) : wpList P ops Q (o :: rest) a w :=
  wpList_plain hgd fun K hK => by
    obtain ⟨a', cap', w', hr, h2, h3, h4⟩ := run_app (P := P) w t o.type e i z size bytes ht hi hz hsize hby hzs hsz hown hsrc hnil h1 h63 hbytes
    unfold Oper.wp execOp
    simp only [ho, resolve, invoke, builtin, Sem.run_bind, Sem.run_pure, Result.andThen_ok, List.map_toArray, List.map_cons, List.map_nil, hs, hx, hr]
    exact hK _ _ (h a' cap' w' h2 h3 h4)

theorem step_app {ops : Array Oper} {o : Oper} {a : Act} {K : Act → World → Prop} {Q : Exit → Act → World → Prop} {E : Prop} (hgd : o.guard = none) (s x : Operand) (t : TypeId)
    (ho : o.op = .call { callee := .builtin .append, args := #[s, x], argTypes := #[t, t] })
    (e : TypeId) (i : TypeInfo) (z : Value) (size bytes : Nat) (ht : P.underlying t = some (.slice e)) (hi : P.info? e = some i) (hz : i.zero = some z)
    (hsize : i.size = size) (hby : i.bytes = bytes) (hzs : z.cells.size = size) (hsz : 0 < size)
    (ar : Option Addr) (n cap : Nat) (xs : List Value) (hs : a.eval s = .slice ar n cap) (b : Option Addr) (m c : Nat) (news : List Value) (hx : a.eval x = .slice b m c)
    (hown : RowAt w e size ar n cap xs) (hsrc : Src w b size m news) (hnil : b = none → c = 0) (h1 : ∀ u ∈ news, u.oneCell' = true)
    (h63 : n + m ≤ maxLen) (hbytes : (n + m) * bytes ≤ 140737488355328)
    (h : ∀ a' cap' w', RowAt w' e size a' (n + m) cap' (xs ++ news) → Keeps (fun k => blk ar = some k) w w' → (blk a' = blk ar ∨ blk a' = some w.heap.size ∧ w.heap.size < w'.heap.size) → K (a.put o.dst (.slice a' (n + m) cap')) w') :
    if Region.wanted o (yielded ops a.tmps) = true then Oper.wp P o a w K Q else E := by
  have hw : Region.wanted o (yielded ops a.tmps) = true := by simp [Region.wanted, hgd]
  rw [if_pos hw]
  obtain ⟨a', cap', w', hr, h2, h3, h4⟩ := run_app (P := P) w t o.type e i z size bytes ht hi hz hsize hby hzs hsz hown hsrc hnil h1 h63 hbytes
  unfold Oper.wp execOp
  simp only [ho, resolve, invoke, builtin, Sem.run_bind, Sem.run_pure, Result.andThen_ok, List.map_toArray, List.map_cons, List.map_nil, hs, hx, hr]
  exact h a' cap' w' h2 h3 h4

/-- make([]T, n), T of one cell. -/
theorem run_make1 (t e : TypeId) (i : TypeInfo) (z : Value) (bytes : Nat) (ht : P.underlying t = some (.slice e)) (hi : P.info? e = some i) (hz : i.zero = some z) (hsize : i.size = 1) (hby : i.bytes = bytes) (hz1 : z.cells = #[z])
    (kl kc : IntKind) (n : Nat) (hbytes : bytes * n ≤ 281474976710656) (h63 : n ≤ 9223372036854775807) :
    (Instr.makeSlice t (.int kl (n : Int)) (.int kc (n : Int))).run P w = .ok (.slice (some ⟨w.heap.size, 0, none⟩) n n) (w.alloc (.cells (List.replicate n z).toArray e)) := by
  have hb : (i.bytes : Int) * (n : Int) ≤ 281474976710656 := by
    have : ((bytes * n : Nat) : Int) ≤ 281474976710656 := by omega
    rw [hby]
    rwa [Int.natCast_mul] at this
  have h := run_make (P := P) w t e i z ht hi hz kl kc n n (by omega) (Int.le_refl _) hb (by omega)
  rw [h]
  simp only [Int.toNat_natCast, hsize, Nat.mul_one, hz1]
  congr 3
  apply Array.toList_inj.1
  rw [toList_madeCells_one]
end

def bcells (bs : List Bool) : Array Value := (bs.map Value.bool).toArray
theorem bcells_size (bs : List Bool) : (bcells bs).size = bs.length := by simp [bcells]
theorem bcells_get {bs : List Bool} {j : Nat} (h : j < bs.length) : (bcells bs)[j]? = some (.bool (gb bs j)) := by simp [bcells, h, gb_eq h]
theorem bcells_set (bs : List Bool) (k : Nat) (v : Bool) : (bcells bs).setIfInBounds k (.bool v) = bcells (bs.set k v) := by
  apply Array.toList_inj.1
  simp [bcells, List.map_set]
theorem bcells_replicate (n : Nat) : (List.replicate n (Value.bool false)).toArray = bcells (List.replicate n false) := by simp [bcells]
theorem BoolsAt.of_heap {w : World} {g : Nat} {bs : List Bool} {t : TypeId} {f : Nat × Nat} (h : w.heap[g]? = some (.cells (bcells bs) t f)) : BoolsAt w (some ⟨g, 0, none⟩) bs :=
  fun j hj => ⟨g, 0, rfl, by rw [Nat.zero_add, cell_of_heap h, bcells_get hj]⟩
theorem gb_set {bs : List Bool} {k j : Nat} {v : Bool} (hk : k < bs.length) : gb (bs.set k v) j = if j = k then v else gb bs j := by
  simp only [gb, List.getD, List.getElem?_set]
  by_cases h : k = j
  · subst h; simp [hk]
  · simp [h, Ne.symm h]
theorem gb_replicate (n j : Nat) : gb (List.replicate n false) j = false := by
  simp only [gb, List.getD, List.getElem?_replicate]; split <;> rfl

theorem Keeps.setRow {S : Nat → Prop} {a w : World} (h : Keeps S a w) {g : Nat} (hg : S g ∨ a.heap.size ≤ g) (cs : Array Value) : Keeps S a (w.setRow g cs) :=
  ⟨h.os, h.tape, h.output, by simpa [World.setRow] using h.size, fun i hi hn => (setRow_other w g i cs (by rintro rfl; rcases hg with hg | hg; exact hn hg; omega)).trans (h.block i hi hn)⟩

/-- copy(dst, src), elements of one cell: dst lies in a block that is known whole. -/
theorem wpList_cpy {P : Program} (w : World) {ops : Array Oper} {rest : List Oper} {o : Oper} {a : Act} {Q : Exit → Act → World → Prop} (hgd : o.guard = none) (d s : Operand) (dT sT : TypeId)
    (ho : o.op = .call { callee := .builtin .copy, args := #[d, s], argTypes := #[dT, sT] }) (elem : TypeId) (hu : P.underlying dT = some (.slice elem)) (hsz : (P.info? elem).map (·.size) = some 1)
    (g off dLen dCap : Nat) (sp : Option Addr) (sLen sCap : Nat) (hd : a.eval d = .slice (some ⟨g, off, none⟩) dLen dCap) (hs : a.eval s = .slice sp sLen sCap)
    (cur : List Value) (t : TypeId) (news : List Value)
    (h : ∀ w', w'.heap[g]? = some (.cells (splice cur off (news.take dLen)).toArray t (0, 0)) → Keeps (· = g) w w' → wpList P ops Q rest (a.put o.dst (.int .i64 (Nat.min sLen dLen : Nat))) w')
    (hg : w.heap[g]? = some (.cells cur.toArray t (0, 0))) (hsrc : Src w sp 1 sLen news) (hfit : off + dLen ≤ cur.length) (h1 : ∀ v ∈ news, v.oneCell' = true) :
    wpList P ops Q (o :: rest) a w := by
  obtain ⟨hl, hn0, hc⟩ := hsrc
  have hlen : (news.take dLen).length = Nat.min sLen dLen := by
    simp only [List.length_take, hl, Nat.mul_one]; exact Nat.min_comm _ _
  have hle : Nat.min sLen dLen ≤ dLen := Nat.min_le_right _ _
  by_cases h0 : Nat.min sLen dLen = 0
  · have hcs : news.take dLen = [] := List.eq_nil_of_length_eq_zero (by rw [hlen]; exact h0)
    refine wpList_copy_nothing hgd d s dT sT ho elem hu hsz _ sp dLen dCap sLen sCap hd hs h0 ?_
    have := h w (by rw [hcs]; simpa [splice] using hg) (Keeps.refl _ _)
    rw [h0] at this
    exact this
  · cases sp with
    | none => have := hn0 rfl; subst this; simp at h0
    | some ad =>
      refine wpList_copy_own hgd d s dT sT ho elem hu hsz g off dLen dCap ad sLen sCap hd hs cur.toArray t hg (news.take dLen) hlen (fun j v hj => hc ad rfl j v ?_) (by rw [hlen]; simp; omega) (fun v hv => h1 v (List.mem_of_mem_take hv)) ?_
      · rw [List.getElem?_take] at hj
        split at hj
        · exact hj
        · cases hj
      · have hh := h (w.setRow g (cur.toArray.toList.take off ++ (news.take dLen ++ cur.toArray.toList.drop (off + (news.take dLen).length))).toArray) (by
          rw [setRow_heap w g cur.toArray _ t (0, 0) hg]; rfl) ((Keeps.refl (· = g) w).setRow (.inl rfl) _)
        rw [hlen] at hh ⊢
        exact hh

/-- a call that turns nothing, in a quiet region behind another one -/
theorem quiet_more {P : Program} {f : FuncId} {args : Array Value} {w : World} {a n : Nat} {v : Value}
    (h : Calls P f args (w.drewN (a + n)) fun e w' => e = .returned v ∧ w' = w.drewN (a + n)) :
    Calls P f args (w.drewN (a + n)) fun e w'' => e = .returned v ∧ ∃ m, w'' = w.drewN (a + m) :=
  h.mono fun _ _ hh => ⟨hh.1, n, hh.2⟩

end Go.Proofs.Ytglpacdenfoicaa
