/- the buffer in memory: the state, its moves -/
import Derived.Test.YtcejapdjkkmkaaaB
namespace Go.Proofs.Ytcejapdjkkmkaaa
open Go.RowKit

/-- What is known of a key, and where its bytes are. -/
structure Rec where
  key : Int
  st : Int
  data : List Int
  a : Option Addr
  cap : Nat

def itemV (r : Rec) : Value := .agg #[.int .i64 r.st, .slice r.a r.data.length r.cap]
def bents (L : List Rec) : List (Int × Value) := L.map fun r => (r.key, itemV r)
def bkeys (L : List Rec) : List Int := L.map (·.key)
theorem bkeys_ents (L : List Rec) : mkeys (bents L) = bkeys L := by simp [mkeys, bents, bkeys]

def bget (k : Int) : List Rec → Option Rec
  | [] => none
  | x :: l => if k = x.key then some x else bget k l
def bset (r : Rec) : List Rec → List Rec
  | [] => [r]
  | x :: l => if r.key = x.key then r :: l else x :: bset r l
def bdel (k : Int) : List Rec → List Rec
  | [] => []
  | x :: l => if k = x.key then l else x :: bdel k l

theorem mget_bents (k : Int) : ∀ L, mget k (bents L) = (bget k L).map itemV
  | [] => rfl
  | x :: l => by
    have ih := mget_bents k l
    simp only [bents] at ih
    by_cases h : k = x.key <;> simp [bents, mget, bget, h] <;> simpa [h] using ih
theorem mset_bents (r : Rec) : ∀ L, mset r.key (itemV r) (bents L) = bents (bset r L)
  | [] => rfl
  | x :: l => by
    have ih := mset_bents r l
    simp only [bents] at ih
    by_cases h : r.key = x.key <;> simp [bents, mset, bset, h] <;> simpa [h] using ih
theorem mdel_bents (k : Int) : ∀ L, mdel k (bents L) = bents (bdel k L)
  | [] => rfl
  | x :: l => by
    have ih := mdel_bents k l
    simp only [bents] at ih
    by_cases h : k = x.key <;> simp [bents, mdel, bdel, h] <;> simpa [h] using ih

theorem bget_none {k : Int} {L : List Rec} : bget k L = none ↔ k ∉ bkeys L := by
  induction L with
  | nil => simp [bget, bkeys]
  | cons x l ih => by_cases h : k = x.key <;> simp [bget, bkeys, h] <;> simpa [bkeys] using ih
theorem bget_mem {k : Int} {L : List Rec} {r : Rec} (h : bget k L = some r) : r ∈ L ∧ r.key = k := by
  induction L with
  | nil => cases h
  | cons x l ih =>
    rw [bget] at h
    split at h
    · cases h; exact ⟨by simp, by simp_all⟩
    · exact ⟨List.mem_cons_of_mem _ (ih h).1, (ih h).2⟩
theorem mem_bset {r x : Rec} {L : List Rec} (h : x ∈ bset r L) : x = r ∨ x ∈ L := by
  induction L with
  | nil => simpa [bset] using h
  | cons y l ih =>
    rw [bset] at h
    split at h
    · rcases List.mem_cons.1 h with h | h
      · exact .inl h
      · exact .inr (List.mem_cons_of_mem _ h)
    · rcases List.mem_cons.1 h with h | h
      · exact .inr (by rw [h]; simp)
      · rcases ih h with h | h
        · exact .inl h
        · exact .inr (List.mem_cons_of_mem _ h)
theorem mem_bdel {k : Int} {x : Rec} {L : List Rec} (h : x ∈ bdel k L) : x ∈ L := by
  induction L with
  | nil => cases h
  | cons y l ih =>
    rw [bdel] at h
    split at h
    · exact List.mem_cons_of_mem _ h
    · rcases List.mem_cons.1 h with h | h
      · rw [h]; simp
      · exact List.mem_cons_of_mem _ (ih h)
theorem bkeys_set_in {r : Rec} {L : List Rec} (h : r.key ∈ bkeys L) : bkeys (bset r L) = bkeys L := by
  induction L with
  | nil => simp [bkeys] at h
  | cons x l ih =>
    by_cases e : r.key = x.key
    · simp [bset, bkeys, e]
    · have h' : r.key ∈ bkeys l := by simpa [bkeys, e] using h
      simp only [bset, if_neg e, bkeys, List.map_cons]
      congr 1
      exact ih h'
theorem bset_new {r : Rec} {L : List Rec} (h : r.key ∉ bkeys L) : bset r L = L ++ [r] := by
  induction L with
  | nil => rfl
  | cons x l ih =>
    have h' : r.key ≠ x.key ∧ r.key ∉ bkeys l := by simpa [bkeys] using h
    simp only [bset, if_neg h'.1, List.cons_append]
    rw [ih h'.2]
theorem bkeys_del (k : Int) (L : List Rec) : bkeys (bdel k L) = (bkeys L).erase k := by
  rw [← bkeys_ents, ← mdel_bents, mkeys_del, bkeys_ents]
theorem bkeys_length (L : List Rec) : (bkeys L).length = L.length := by simp [bkeys]

theorem kidx_in {k : Int} : ∀ {ks : List Int} {i : Nat}, k ∈ ks → ∃ j, j < ks.length ∧ kidx k ks i = ((i + j : Nat) : Int) ∧ ks.eraseIdx j = ks.erase k
  | [], _, h => by cases h
  | x :: l, i, h => by
    by_cases e : k = x
    · refine ⟨0, by simp, by simp [kidx, e], by simp [e]⟩
    · have h' : k ∈ l := by simpa [e] using h
      obtain ⟨j, h1, h2, h3⟩ := kidx_in (i := i + 1) h'
      refine ⟨j + 1, by simp; omega, ?_, ?_⟩
      · rw [kidx, if_neg e, h2]; congr 1; omega
      · have : (x == k) = false := by simp; exact fun h => e h.symm
        simp [this, h3]
theorem kidx_out {k : Int} : ∀ {ks : List Int} {i : Nat}, k ∉ ks → kidx k ks i = -1
  | [], _, _ => rfl
  | x :: l, i, h => by
    have h' : k ≠ x ∧ k ∉ l := by simpa using h
    rw [kidx, if_neg h'.1, kidx_out h'.2]

/-- the bytes of a record: a block of their own, or none -/
def DataB (w : World) (r : Rec) : Prop := (r.a = none ∧ r.data = []) ∨ ∃ g, r.a = some ⟨g, 0, none⟩ ∧ w.heap[g]? = some (.cells (dcells r.data).toArray 5)
theorem DataB.keeps {S : Nat → Prop} {w w' : World} {r : Rec} (h : DataB w r) (hk : Keeps S w w') (hn : ∀ g, blk r.a = some g → ¬ S g) : DataB w' r := by
  rcases h with h | ⟨g, h1, h2⟩
  · exact .inl h
  · exact .inr ⟨g, h1, hk.heap h2 (hn g (by rw [h1]; rfl))⟩
theorem DataB.at {w : World} {r : Rec} (h : DataB w r) : DataAt w r.a r.data := by
  rcases h with ⟨h1, h2⟩ | ⟨g, h1, h2⟩
  · rw [h2]; exact DataAt.nil _ _
  · intro j hj
    refine ⟨g, 0, h1, ?_⟩
    have : (dcells r.data).toArray[j]? = some (.int .u8 (gi r.data j)) := by simp [dcells, gi_eq hj, hj]
    simp [World.cell?, h2, this]
theorem DataB.lt {w : World} {r : Rec} (h : DataB w r) {g : Nat} (hg : blk r.a = some g) : g < w.heap.size := by
  rcases h with ⟨h1, _⟩ | ⟨g', h1, h2⟩
  · rw [h1] at hg; cases hg
  · rw [h1] at hg; cases hg; exact lt_of_heap h2
theorem DataB.ne {w : World} {r : Rec} (h : DataB w r) {b : Nat} {c : Array Value} {t : TypeId} {fr : Nat × Nat} (hb : w.heap[b]? = some (.cells c t fr)) (ht : t ≠ 5) {g : Nat} (hg : blk r.a = some g) : g ≠ b := by
  rintro rfl
  rcases h with ⟨h1, _⟩ | ⟨g', h1, h2⟩
  · rw [h1] at hg; cases hg
  · rw [h1] at hg; cases hg; rw [h2] at hb; cases hb; exact ht rfl
theorem DataB.nem {w : World} {r : Rec} (h : DataB w r) {b : Nat} {f : List (Int × Value)} (hb : MapAt w b f) {g : Nat} (hg : blk r.a = some g) : g ≠ b := by
  rcases h with ⟨h1, _⟩ | ⟨g', h1, h2⟩
  · rw [h1] at hg; cases hg
  · rw [h1] at hg; cases hg; exact fun e => hb.ne h2 e.symm

structure BufS (w : World) (bb mb : Nat) (ka : Option Addr) (kcap : Nat) (most : Int) (L : List Rec) : Prop where
  blk : w.heap[bb]? = some (.cells #[.int .i64 most, .slice ka L.length kcap, .map (some mb)] 61)
  row : KeyRow w ka kcap (bkeys L)
  map : MapAt w mb (bents L)
  data : ∀ r ∈ L, DataB w r
  dlen : ∀ r ∈ L, r.data.length ≤ 140737488351232
  nodup : (bkeys L).Nodup

/-- the blocks that calls may write -/
def wown (bb mb : Nat) (ka : Option Addr) (k : Nat) : Prop := k = bb ∨ k = mb ∨ blk ka = some k
/-- all blocks -/
def down (bb mb : Nat) (ka : Option Addr) (L : List Rec) (k : Nat) : Prop := k = bb ∨ k = mb ∨ blk ka = some k ∨ ∃ r ∈ L, blk r.a = some k

theorem KeyRow.ne {w : World} {ka : Option Addr} {kcap : Nat} {ks : List Int} (h : KeyRow w ka kcap ks) {b : Nat} {c : Array Value} {t : TypeId} {fr : Nat × Nat} (hb : w.heap[b]? = some (.cells c t fr)) (ht : t ≠ 3) {g : Nat} (hg : Ytcejapdjkkmkaaa.blk ka = some g) : g ≠ b := by
  rintro rfl
  rcases h.form with ⟨h1, _⟩ | ⟨g', cur, ha, _, hh, _⟩
  · rw [h1] at hg; cases hg
  · rw [ha] at hg; cases hg; rw [hh] at hb; cases hb; exact ht rfl
theorem KeyRow.nem {w : World} {ka : Option Addr} {kcap : Nat} {ks : List Int} (h : KeyRow w ka kcap ks) {b : Nat} {f : List (Int × Value)} (hb : MapAt w b f) {g : Nat} (hg : Ytcejapdjkkmkaaa.blk ka = some g) : g ≠ b := by
  rcases h.form with ⟨h1, _⟩ | ⟨g', cur, ha, _, hh, _⟩
  · rw [h1] at hg; cases hg
  · rw [ha] at hg; cases hg; exact fun e => hb.ne hh e.symm
theorem KeyRow.ned {w : World} {ka : Option Addr} {kcap : Nat} {ks : List Int} (h : KeyRow w ka kcap ks) {r : Rec} (hr : DataB w r) {g g' : Nat} (hg : Ytcejapdjkkmkaaa.blk ka = some g) (hg' : Ytcejapdjkkmkaaa.blk r.a = some g') : g' ≠ g := by
  rcases h.form with ⟨h1, _⟩ | ⟨g2, cur, ha, _, hh, _⟩
  · rw [h1] at hg; cases hg
  · rw [ha] at hg; cases hg; exact hr.ne hh (by decide) hg'

variable {w w' : World} {bb mb kcap : Nat} {ka : Option Addr} {most : Int} {L : List Rec}
theorem BufS.keeps {T : Nat → Prop} (h : BufS w bb mb ka kcap most L) (hk : Keeps T w w') (hn : ∀ k, down bb mb ka L k → ¬ T k) : BufS w' bb mb ka kcap most L :=
  ⟨hk.heap h.blk (hn _ (.inl rfl)), RowAt.keeps h.row hk (fun g hg => hn g (.inr (.inr (.inl hg)))), h.map.keeps hk (hn _ (.inr (.inl rfl))), fun r hr => (h.data r hr).keeps hk (fun g hg => hn g (.inr (.inr (.inr ⟨r, hr, hg⟩)))), h.dlen, h.nodup⟩
theorem BufS.nil (h : BufS w bb mb ka kcap most L) (hk : Keeps Nil w w') : BufS w' bb mb ka kcap most L := h.keeps hk (fun _ _ h => h)
theorem BufS.lt (h : BufS w bb mb ka kcap most L) {k : Nat} (hk : down bb mb ka L k) : k < w.heap.size := by
  rcases hk with rfl | rfl | hk | ⟨r, hr, hg⟩
  · exact lt_of_heap h.blk
  · exact h.map.lt
  · exact RowAt.lt h.row hk
  · exact (h.data r hr).lt hg
theorem BufS.mne (h : BufS w bb mb ka kcap most L) : mb ≠ bb := h.map.ne h.blk
theorem BufS.dne (h : BufS w bb mb ka kcap most L) {r : Rec} (hr : r ∈ L) {g : Nat} (hg : Ytcejapdjkkmkaaa.blk r.a = some g) : ¬ wown bb mb ka g := by
  rintro (e | e | e)
  · exact (h.data r hr).ne h.blk (by decide) hg e
  · exact (h.data r hr).nem h.map hg e
  · exact h.row.ned (h.data r hr) e hg rfl
theorem bget_len {k : Int} {r : Rec} (h : BufS w bb mb ka kcap most L) (hr : bget k L = some r) : r.data.length ≤ 140737488351232 := h.dlen r (bget_mem hr).1
end Go.Proofs.Ytcejapdjkkmkaaa
