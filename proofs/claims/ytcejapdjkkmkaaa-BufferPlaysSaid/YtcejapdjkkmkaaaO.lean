/- BufferOrders: plain laws, strings of bytes -/
import Derived.Test.YtcejapdjkkmkaaaK1
import Derived.Test.YtcejapdjkkmkaaaTree
import Derived.Laws.IdiomStrings
import Derived.Deep.DeepCutAuto
namespace Go.Proofs.Ytcejapdjkkmkaaa
open Go.RowKit

/-- the map of what was put last -/
def sents (l : List It) : List (Int × Value) := l.map fun x => (x.key, Value.string (strOfNums x.data))
theorem mkeys_sents (l : List It) : mkeys (sents l) = ikeys l := by simp [mkeys, sents, ikeys]
theorem mset_sents (r : It) : ∀ l : List It, mset r.key (.string (strOfNums r.data)) (sents l) = sents (iset r l)
  | [] => rfl
  | x :: l => by
    have ih := mset_sents r l
    simp only [sents] at ih
    by_cases h : r.key = x.key <;> simp [sents, mset, iset, h] <;> simpa [h] using ih
theorem mget_sents (k : Int) : ∀ l : List It, mget k (sents l) = (iget k l).map fun x => Value.string (strOfNums x.data)
  | [] => rfl
  | x :: l => by
    have ih := mget_sents k l
    simp only [sents] at ih
    by_cases h : k = x.key <;> simp [sents, mget, iget, h] <;> simpa [h] using ih
theorem iput_set {most : Int} {r : It} {l : List It} (h : (l.length : Int) < most) : iput most r l = iset r l := by
  have e : ifull most r.key l = false := by simp [ifull]; intro _; omega
  unfold iput
  rw [e, if_neg (by decide)]
theorem mem_iset {r x : It} {l : List It} (h : x ∈ iset r l) : x = r ∨ x ∈ l := by
  induction l with
  | nil => simpa [iset] using h
  | cons y l ih =>
    rw [iset] at h
    split at h
    · rcases List.mem_cons.1 h with h | h
      · exact .inl h
      · exact .inr (List.mem_cons_of_mem _ h)
    · rcases List.mem_cons.1 h with h | h
      · exact .inr (by rw [h]; simp)
      · rcases ih h with h | h
        · exact .inl h
        · exact .inr (List.mem_cons_of_mem _ h)
theorem iget_mem {x : It} : ∀ {l : List It}, x ∈ l → (ikeys l).Nodup → iget x.key l = some x
  | [], h, _ => by cases h
  | y :: l, h, hn => by
    have hn' := List.nodup_cons.1 (by simpa [ikeys] using hn : (y.key :: l.map (·.key)).Nodup)
    rw [iget]
    rcases List.mem_cons.1 h with h | h
    · subst h; rw [if_pos rfl]
    · rw [if_neg, iget_mem h hn'.2]
      intro e
      exact hn'.1 (List.mem_map.2 ⟨x, h, e⟩)

/-- bytes -/
def Bys (d : List Int) : Prop := ∀ j, j < d.length → 0 ≤ gi d j ∧ gi d j ≤ 255
theorem run_tobytes (w : World) {s : ByteArray} {d : List Int} (hs : strOfNums d = s) (hb : Bys d) : ∃ cap w', (convert 9 30 (.string s)).run Try.prog w = .ok (.slice (some ⟨w.heap.size, 0, none⟩) d.length cap) w' ∧ DataAt w' (some ⟨w.heap.size, 0, none⟩) d ∧ Keeps Nil w w' ∧ w'.heap.size = w.heap.size + 1 := by
  subst hs
  have h := run_bytes_of_string (P := Try.prog) w 9 30 5 (strOfNums d) Try.underlying9 Try.underlying30 Try.underlying5
  rw [strOfNums_size] at h
  refine ⟨_, _, h, fun j hj => ⟨_, 0, rfl, ?_⟩, (Keeps.refl Nil w).drew.alloc _, by simp⟩
  have hh := heap_alloc_new w.drew (.cells (bytesRow (strOfNums d) (grownCap w d.length 0 5)) 5 ((bytesRow (strOfNums d) (grownCap w d.length 0 5)).size, (bytesRow (strOfNums d) (grownCap w d.length 0 5)).size + 1))
  have hsz : w.drew.heap.size = w.heap.size := rfl
  rw [hsz] at hh
  rw [Nat.zero_add, cell_of_heap hh]
  have h255 := hb j hj
  have e : (bytesRow (strOfNums d) (grownCap w d.length 0 5))[j]? = some (.int .u8 (UInt8.ofNat (gi d j).toNat).toNat) := by
    unfold bytesRow
    rw [Array.getElem?_append_left (by simp [strOfNums]; exact hj)]
    simp [strOfNums, gi_eq hj, hj]
  rw [e]
  congr 2
  have : (UInt8.ofNat (gi d j).toNat).toNat = (gi d j).toNat := by simp; omega
  rw [this]; omega
theorem zero9 (w : World) : (zeroValue 9).run Try.prog w = .ok (.string ByteArray.empty) w := by kernel_rfl
theorem run_neq_str (s : ByteArray) (w : World) : (binOp .neq 9 (.string s) (.string s)).run Try.prog w = .ok (.bool false) w := by
  simp [binOp, Op.stringOp]
end Go.Proofs.Ytcejapdjkkmkaaa
