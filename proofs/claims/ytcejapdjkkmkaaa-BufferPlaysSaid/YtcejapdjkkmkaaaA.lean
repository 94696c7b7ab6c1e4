/- the buffer: bytes; walks of own, New, Index, Len -/
import Derived.Test.YtcejapdjkkmkaaaRows
import Derived.Test.YtcejapdjkkmkaaaMaps
namespace Go.Proofs.Ytcejapdjkkmkaaa
open Go.RowKit

attribute [local go_sem ↓] Go.wp_at_zero Go.wp_at_succ

/-- The slice at a reads as the bytes d. -/
def DataAt (w : World) (a : Option Addr) (d : List Int) : Prop := ∀ j, j < d.length → ∃ b off, a = some ⟨b, off, none⟩ ∧ w.cell? ⟨b, off + j, none⟩ = some (.int .u8 (gi d j))
theorem DataAt.keeps {S : Nat → Prop} {w w' : World} {a : Option Addr} {d : List Int} (h : DataAt w a d) (hk : Keeps S w w') (hn : ∀ b, blk a = some b → ¬ S b) : DataAt w' a d :=
  fun j hj => let ⟨b, off, e, hc⟩ := h j hj; ⟨b, off, e, hk.cell hc (hn b (by rw [e]; rfl))⟩
theorem DataAt.nil (w : World) (a : Option Addr) : DataAt w a [] := fun j hj => by simp at hj
theorem DataAt.src {w : World} {a : Option Addr} {d : List Int} (h : DataAt w a d) : Src w a 1 d.length (d.map (Value.int .u8)) := by
  refine ⟨by simp, fun ha => ?_, fun ad ha j u hu => ?_⟩
  · cases d with
    | nil => rfl
    | cons x r =>
      obtain ⟨b, off, e, _⟩ := h 0 (by simp)
      rw [ha] at e; cases e
  · have hj : j < d.length := by
      have := (List.getElem?_eq_some_iff.1 hu).1
      simpa using this
    obtain ⟨b, off, e, hc⟩ := h j hj
    rw [ha] at e; cases e
    rw [Addr.add_lit, hc]
    rw [List.getElem?_map, List.getElem?_eq_getElem hj] at hu
    rw [gi_eq hj]
    exact hu
theorem info5 : (Try.prog.info? 5).map (fun i => (i.zero, i.size, i.bytes)) = some (some (.int .u8 0), 1, 1) := by kernel_rfl
theorem info3 : (Try.prog.info? 3).map (fun i => (i.zero, i.size, i.bytes)) = some (some (.int .i64 0), 1, 8) := by kernel_rfl
theorem size5 : (Try.prog.info? 5).map (·.size) = some 1 := by kernel_rfl

def dcells (d : List Int) : List Value := d.map (Value.int .u8)
theorem dcells_one (d : List Int) : ∀ u ∈ dcells d, u.oneCell' = true := by
  intro u hu
  obtain ⟨x, _, rfl⟩ := List.mem_map.1 hu
  rfl
/-- a slice of bytes in a new block: all of it -/
def OwnOut (w : World) (d : List Int) (e : Ending) (w' : World) : Prop := ∃ g, e = .returned (.slice (some ⟨g, 0, none⟩) d.length d.length) ∧ w'.heap[g]? = some (.cells (dcells d).toArray 5) ∧ w.heap.size ≤ g ∧ Keeps Nil w w'

theorem own_keeps {w w2 : World} {o : Obj} (h : Keeps (· = w.heap.size) (w.alloc o) w2) : Keeps Nil w w2 := ((Keeps.refl Nil w).alloc o).trans' h (fun j hj => .inr (by rw [hj]; exact Nat.le_refl _))
set_option maxHeartbeats 1000000 in
theorem own_any {w : World} {a : Option Addr} {cap : Nat} {d : List Int} (h : DataAt w a d) (hlen : d.length ≤ 140737488351232) : Calls Try.prog 21 #[.slice a d.length cap] w (OwnOut w d) := by
  obtain ⟨i5, hi, hz0, hz1, hz2⟩ := info_parts info5
  have hmk := fun W => run_make1 (P := Try.prog) W 30 5 i5 (.int .u8 0) 1 Try.underlying30 hi hz0 hz1 hz2 rfl .i64 .i64 d.length (by omega) (by omega)
  have hsrc := Lib.hid h.src
  clear h
  go_enter Try.func21, Try.ntmps21
  go_wp2_with (refine wpList_cpy _ rfl _ _ 30 30 rfl 5 Try.underlying30 size5 w.heap.size 0 d.length d.length a d.length cap rfl rfl (List.replicate d.length (.int .u8 0)) 5 (dcells d) ?_ (by exact heap_alloc_new w _) (by exact hsrc.out.keeps ((Keeps.refl Nil w).alloc _)) (by simp) (dcells_one _); intro w2 hh2 hk2)
  go_ret
  refine ⟨w.heap.size, rfl, ?_, Nat.le_refl _, own_keeps hk2⟩
  rw [hh2]
  congr 2
  have e : List.take d.length (List.map (Value.int .u8) d) = List.map (Value.int .u8) d := List.take_of_length_le (by simp)
  simp [splice, dcells, e]

/-- where a key is; below 0: nowhere -/
def kidx (k : Int) : List Int → Nat → Int
  | [], _ => -1
  | x :: r, i => if k = x then i else kidx k r (i + 1)
theorem kidx_drop {k : Int} {L : List Int} {q : Nat} (h : q < L.length) : kidx k (L.drop q) q = if k = gi L q then (q : Int) else kidx k (L.drop (q + 1)) (q + 1) := by
  rw [List.drop_eq_getElem_cons h, kidx, gi_eq h]
set_option maxHeartbeats 1000000 in
theorem index_any {w : World} {a : Option Addr} {cap : Nat} {xs : List Int} (hx : IntsAt w a xs) (k : Int) (hlen : xs.length ≤ 140737488351232) :
    Calls Try.prog 22 #[.slice a xs.length cap, .int .i64 k] w fun e w' => e = .returned (.int .i64 (kidx k xs 0)) ∧ w = w' := by
  have hx' := Lib.hid hx
  clear hx
  go_enter Try.func22, Try.ntmps22
  go_wp2_with fail
  go_loop [5, 8] (fun _ i => ∃ q : Nat, q ≤ xs.length ∧ i = .int .i64 q ∧ Hid (kidx k xs 0 = kidx k (xs.drop q) q)) (fun _ i => xs.length - (intOf i).toNat)
  case atStart => exact ⟨0, Nat.zero_le _, rfl, rfl⟩
  case round =>
    obtain ⟨q, hq, rfl, hI⟩ := hrel
    by_cases hlt : q < xs.length
    · obtain ⟨b, off, rfl, hc⟩ := hx'.out q hlt
      have hd := Lib.hid (kidx_drop (k := k) hlt)
      by_cases hk : k = gi xs q
      · have e1 : (k == gi xs q) = true := by simpa using hk
        have hI2 := Lib.hid (hI.out.trans (hd.out.trans (if_pos hk)))
        clear hI hd hk
        go_wp2_with fail
        go_ret
        exact ⟨ret_int hI2.out.symm, rfl⟩
      · have e1 : (k == gi xs q) = false := by simpa using hk
        have hI2 := Lib.hid (hI.out.trans (hd.out.trans (if_neg hk)))
        clear hI hd hk
        go_wp2_with fail
        go_round
        case rel => exact ⟨q + 1, by omega, by go_num, hI2⟩
        case measure => simp [intOf]; omega
    · have hI2 := Lib.hid (show kidx k xs 0 = -1 by rw [hI.out, List.drop_eq_nil_of_le (by omega)]; rfl)
      clear hI
      go_wp2_with fail
      go_ret
      exact ⟨ret_int hI2.out.symm, rfl⟩
end Go.Proofs.Ytcejapdjkkmkaaa
