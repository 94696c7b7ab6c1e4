/- BufferPlays: the script, the buffer beside the reference -/
import Derived.Test.YtcejapdjkkmkaaaR2
namespace Go.Proofs.Ytcejapdjkkmkaaa
open Go.RowKit

/-- a call of the script -/
structure OpI where
  kind : Int
  key : Int
  data : List Int
def OpsAt (w : World) (a : Option Addr) (ops : List OpI) : Prop :=
  ∀ i (_ : i < ops.length), ∃ b off a' cap', a = some ⟨b, off, none⟩ ∧ w.cell? ⟨b, off + i * 3, none⟩ = some (.int .i64 ops[i].kind) ∧ w.cell? ⟨b, off + i * 3 + 1, none⟩ = some (.int .i64 ops[i].key) ∧
    w.cell? ⟨b, off + i * 3 + 2, none⟩ = some (.slice a' ops[i].data.length cap') ∧ DataAt w a' ops[i].data ∧ (a' = none → cap' = 0)
def OpsOk (ops : List OpI) : Prop := ∀ i (_ : i < ops.length), (-9223372036854775808 ≤ ops[i].kind ∧ ops[i].kind ≤ 9223372036854775807) ∧ ops[i].data.length ≤ 140737488351232 ∧ ops[i].data.length ≤ maxLen

theorem iput_most {most : Int} {r : It} {l : List It} (h : (l.length : Int) ≤ most) : ((iput most r l).length : Int) ≤ most := by
  unfold iput
  split
  · exact h
  · rename_i hf
    rcases fidx r.key l with ⟨h1, h2⟩ | ⟨j, x, h1, h2, h3, h4, h5, h6⟩
    · rw [iset_new (iget_none.1 h1), List.length_append]
      have : ifull most r.key l = decide (most ≤ (l.length : Int)) := by simp [ifull, h1]
      rw [this] at hf
      simp at hf ⊢
      omega
    · rw [h6 r rfl, List.length_set]; exact h
theorem nat_str : strOfNums [] = ⟨#[]⟩ := rfl
theorem run_eql_str (s : ByteArray) (w : World) : (binOp .eql 9 (.string s) (.string s)).run Try.prog w = .ok (.bool true) w := by
  simp [binOp, Op.stringOp]

structure PlayW (w0 w : World) (bb rb : Nat) (most : Int) (l m : List It) (O R : Nat → Prop) : Prop where
  b : BufIn w0 w bb most l O
  r : RefX w rb most m R
  rge : ∀ k, R k → w0.heap.size ≤ k
  no : ∀ k, O k → ¬ R k
variable {w0 w w1 w' : World} {bb rb : Nat} {most : Int} {l m l' m' : List It} {O R : Nat → Prop}
theorem PlayW.nil (h : PlayW w0 w bb rb most l m O R) (hk : Keeps Nil w w') : PlayW w0 w' bb rb most l m O R := ⟨⟨h.b.x.nil hk, h.b.k.trans hk, h.b.o⟩, h.r.nil hk, h.rge, h.no⟩
theorem PlayW.far {g : Nat} (h : PlayW w0 w bb rb most l m O R) (hk : Keeps (· = g) w w') (hO : ¬ O g) (hR : ¬ R g) (hg : w0.heap.size ≤ g) : PlayW w0 w' bb rb most l m O R :=
  ⟨⟨h.b.x.keeps hk (fun _ ho e => hO (e ▸ ho)), h.b.k.trans' hk (fun j hj => .inr (by rw [hj]; exact hg)), h.b.o⟩, h.r.keeps hk (fun _ ho e => hR (e ▸ ho)), h.rge, h.no⟩
theorem PlayW.buf {v : Value} {e : Ending} (h : PlayW w0 w bb rb most l m O R) (hk : Keeps Nil w w1) (hB : BOut w1 bb most O v l' e w') : e = .returned v ∧ ∃ O', PlayW w0 w' bb rb most l' m O' R ∧ Keeps O w w' ∧ ∀ k, O' k → O k ∨ w.heap.size ≤ k := by
  obtain ⟨he, O', h1, h2, h3⟩ := (h.nil hk).b.out (Keeps.refl Nil _) hB
  refine ⟨he, O', ⟨h1, (h.r.nil hk).keeps h2 (fun k hr ho => h.no k ho hr), h.rge, fun k ho hr => ?_⟩, (hk.mono (fun _ h => h.elim)).trans h2, fun k ho => (h3 k ho).elim .inl (fun hh => .inr (Nat.le_trans hk.size hh))⟩
  rcases h3 k ho with h4 | h4
  · exact h.no k h4 hr
  · have := h.r.lt hr; have := hk.size; omega
theorem PlayW.ref {v : Value} {e : Ending} (h : PlayW w0 w bb rb most l m O R) (hk : Keeps Nil w w1) (hB : ROut w1 rb most R v m' e w') : e = .returned v ∧ ∃ R', PlayW w0 w' bb rb most l m' O R' ∧ Keeps R w w' ∧ ∀ k, R' k → R k ∨ w.heap.size ≤ k := by
  obtain ⟨rfl, R', h1, h2, h3⟩ := hB
  have h' := h.nil hk
  refine ⟨rfl, R', ⟨⟨h'.b.x.keeps h2 (fun k ho => h.no k ho), h'.b.k.trans' h2 (fun k hr => .inr (h.rge k hr)), h.b.o⟩, h1, fun k hr => ?_, fun k ho hr => ?_⟩, (hk.mono (fun _ h => h.elim)).trans h2, fun k hr => (h3 k hr).elim .inl (fun hh => .inr (Nat.le_trans hk.size hh))⟩
  · rcases h3 k hr with h4 | h4
    · exact h.rge k h4
    · exact Nat.le_trans h'.b.k.size h4
  · rcases h3 k hr with h4 | h4
    · exact h.no k ho h4
    · have := h.b.x.lt ho; have := hk.size; omega

theorem takeX2 {x : It} (h : BufX w bb most (x :: l) O) (hl : l.length < 1000000) :
    Calls Try.prog 10 #[.pointer (some ⟨bb, 0, none⟩)] w fun e w' => ∃ a cap, BOut w bb most O (.tuple #[.int .i64 x.key, .int .i64 x.st, .slice a x.data.length cap, .bool true]) l e w' ∧ DataAt w' a x.data ∧ ∀ g, blk a = some g → O g := by
  obtain ⟨mb, ka, kcap, L, hS, hL, rfl⟩ := h
  cases L with
  | nil => cases hL
  | cons y r =>
    rw [List.map_cons, List.cons.injEq] at hL
    obtain ⟨rfl, rfl⟩ := hL
    rw [List.length_map] at hl
    refine (take_in hS hl).mono ?_
    rintro e w' ⟨hP, hD⟩
    exact ⟨y.a, y.cap, BOut.of hP (fun z hz => .inl (List.mem_cons_of_mem _ hz)), hD.at, fun g hg => .inr (.inr (.inr ⟨y, by simp, hg⟩))⟩

theorem BufX.dlen (h : BufX w bb most l O) {x : It} (hx : x ∈ l) : x.data.length ≤ 140737488351232 := by
  obtain ⟨mb, ka, kcap, L, hS, rfl, rfl⟩ := h
  obtain ⟨r, hr, rfl⟩ := List.mem_map.1 hx
  exact hS.dlen r hr
/-- a row of bytes of the call's own -/
def ByteRow (w : World) (a : Option Addr) (n cap : Nat) : Prop := ∃ ys : List Int, ys.length = n ∧ RowAt w 5 1 a n cap (ys.map (Value.int .u8))
theorem ByteRow.keeps {S : Nat → Prop} {a : Option Addr} {n cap : Nat} (h : ByteRow w a n cap) (hk : Keeps S w w') (hn : ∀ g, blk a = some g → ¬ S g) : ByteRow w' a n cap := by
  obtain ⟨ys, h1, h2⟩ := h
  exact ⟨ys, h1, RowAt.keeps h2 hk hn⟩
theorem ByteRow.cell {a : Option Addr} {n cap q : Nat} (h : ByteRow w a n cap) (hq : q < n) : ∃ g y, a = some ⟨g, 0, none⟩ ∧ g < w.heap.size ∧ w.cell? ⟨g, q, none⟩ = some (.int .u8 y) ∧ w.frozen? ⟨g, q, none⟩ = false := by
  obtain ⟨ys, h1, h2⟩ := h
  subst h1
  rcases h2.form with ⟨_, h3, _⟩ | ⟨g, cur, ha, hn, hh, hs, ht⟩
  · omega
  · subst ha
    have := h2.src.2.2 ⟨g, 0, none⟩ rfl q (.int .u8 (gi ys q)) (by simp [gi_eq hq, hq])
    rw [Addr.add_lit, Nat.zero_add] at this
    exact ⟨g, _, rfl, lt_of_heap hh, this, frozen_of_heap hh q⟩
theorem ByteRow.set {g n cap q : Nat} (h : ByteRow w (some ⟨g, 0, none⟩) n cap) (y : Int) : ByteRow (w.setCell ⟨g, q, none⟩ (.int .u8 y)) (some ⟨g, 0, none⟩) n cap := by
  obtain ⟨ys, h1, h2⟩ := h
  refine ⟨ys.set q y, by simpa using h1, ?_⟩
  rw [List.map_set]
  exact RowAt.setCell h2 _
theorem ByteRow.data {a : Option Addr} {cap : Nat} {d : List Int} (h : RowAt w 5 1 a d.length cap (d.map (Value.int .u8))) : DataAt w a d := by
  intro j hj
  rcases h.form with ⟨_, h3, _⟩ | ⟨g, cur, ha, hn, hh, hs, ht⟩
  · omega
  · subst ha
    have := h.src.2.2 ⟨g, 0, none⟩ rfl j (.int .u8 (gi d j)) (by simp [gi_eq hj, hj])
    exact ⟨g, 0, rfl, by rw [Addr.add_lit] at this; exact this⟩
theorem ByteRow.of_heap {g : Nat} {d : List Int} (h : w.heap[g]? = some (.cells (dcells d).toArray 5)) (hd : d.length ≤ maxLen) : ByteRow w (some ⟨g, 0, none⟩) d.length d.length :=
  ⟨d, rfl, by simp, .inr ⟨g, d.length, _, rfl, Nat.zero_le _, h, Nat.le_refl _, hd, by simp [dcells], by rw [Nat.mul_one]; exact List.take_of_length_le (by simp [dcells])⟩⟩
theorem idel_none {k : Int} : ∀ {l : List It}, iget k l = none → idel k l = l
  | [], _ => rfl
  | x :: l, h => by
    rw [iget] at h
    split at h
    · cases h
    · rename_i hk
      rw [idel, if_neg hk, idel_none h]
theorem idel_length (k : Int) (l : List It) : (idel k l).length ≤ l.length := idel_len k l
end Go.Proofs.Ytcejapdjkkmkaaa
