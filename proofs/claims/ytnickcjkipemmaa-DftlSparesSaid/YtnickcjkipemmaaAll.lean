/- walk of All; rows of entries -/
import Derived.Test.YtnickcjkipemmaaFull
import Derived.Deep.LoopGhost
import Derived.LaidEql
namespace Go.Proofs.Ytnickcjkipemmaa
open Go.RowKit

attribute [local go_sem ↓] Go.wp_at_zero Go.wp_at_succ

def entC (e : Ent) : List Value := [.int .i64 e.key, .int .u64 e.val, .bool e.dirty]
def cellsE (L : List Ent) : List Value := L.flatMap entC
theorem cellsE_snoc (L : List Ent) (e : Ent) : cellsE (L ++ [e]) = cellsE L ++ entC e := by unfold cellsE; simp
theorem cellsE_len : ∀ L : List Ent, (cellsE L).length = L.length * 3
  | [] => rfl
  | e :: r => by
    have ih := cellsE_len r
    unfold cellsE at ih ⊢
    rw [List.flatMap_cons, List.length_append, ih, List.length_cons]
    show 3 + r.length * 3 = (r.length + 1) * 3
    omega
theorem cellsE_get : ∀ (L : List Ent) (j i : Nat) (v : Value), i < 3 → j < L.length → (entC (L.getD j ent0))[i]? = some v → (cellsE L)[j * 3 + i]? = some v
  | [], j, i, v, _, h, _ => by simp at h
  | s :: r, 0, i, v, hi, _, hv => by
    unfold cellsE
    rw [List.flatMap_cons, Nat.zero_mul, Nat.zero_add, List.getElem?_append_left (by show i < 3; exact hi)]
    exact hv
  | s :: r, j + 1, i, v, hi, hj, hv => by
    have ih := cellsE_get r j i v hi (by simpa using hj) hv
    unfold cellsE at ih ⊢
    rw [List.flatMap_cons, List.getElem?_append_right (by show 3 ≤ _; omega)]
    show (List.flatMap entC r)[(j + 1) * 3 + i - 3]? = some v
    rw [show (j + 1) * 3 + i - 3 = j * 3 + i by omega]
    exact ih
theorem entC_one (e : Ent) : ∀ u ∈ entC e, u.oneCell' = true := by
  intro u hu
  simp only [entC, List.mem_cons, List.not_mem_nil, or_false] at hu
  rcases hu with rfl | rfl | rfl <;> rfl
theorem cellsE_one (L : List Ent) : ∀ u ∈ cellsE L, u.oneCell' = true := by
  intro u hu
  obtain ⟨e, _, he⟩ := List.mem_flatMap.1 hu
  exact entC_one e u he
/-- The call's own row of entries (element type E). -/
def EntRow (w : World) (E : TypeId) (a : Option Addr) (cap : Nat) (L : List Ent) : Prop := RowAt w E 3 a L.length cap (cellsE L)
theorem EntRow.at' {w : World} {E : TypeId} {a : Option Addr} {cap : Nat} {L : List Ent} (h : EntRow w E a cap L) {j : Nat} (hj : j < L.length) : ∃ g, a = some ⟨g, 0, none⟩ ∧ EntAt w g (j * 3) (L.getD j ent0) := by
  rcases h.form with ⟨_, h2, _⟩ | ⟨g, cur, ha, hn, hh, hs, ht⟩
  · omega
  · refine ⟨g, ha, ?_⟩
    subst ha
    have hc := fun i v (hi : i < 3) (hv : (entC (L.getD j ent0))[i]? = some v) => (by
      have := h.src.2.2 ⟨g, 0, none⟩ rfl (j * 3 + i) v (cellsE_get L j i v hi hj hv)
      rw [Addr.add_lit, Nat.zero_add] at this
      exact this : w.cell? ⟨g, j * 3 + i, none⟩ = some v)
    exact ⟨hc 0 _ (by omega) rfl, hc 1 _ (by omega) rfl, hc 2 _ (by omega) rfl⟩
theorem src_ent {w : World} {b : Nat} {e : Ent} (h : EntAt w b 0 e) : Src w (some ⟨b, 0, none⟩) 3 1 (entC e) := by
  refine ⟨rfl, (fun h => by cases h), fun ad ha j u hu => ?_⟩
  cases ha
  rw [Addr.add_lit]
  match j, hu with
  | 0, hu => cases hu; exact h.key
  | 1, hu => cases hu; exact h.val
  | 2, hu => cases hu; exact h.dirty
  | j + 3, hu => simp [entC] at hu
theorem ent_new (w : World) (e : Ent) (t : TypeId) : EntAt (w.alloc (.cells #[.int .i64 e.key, .int .u64 e.val, .bool e.dirty] t)) w.heap.size 0 e := by
  constructor <;> (rw [World.cell?_alloc_at _ _ _ _ rfl]; rfl)

/-- the address of the first of a list of nodes; the ring's own where there is none -/
def hdv (cb : Nat) : List Node → Value
  | [] => .pointer (some ⟨cb, 2, none⟩)
  | s :: _ => .pointer (some ⟨s.1, 0, none⟩)
theorem Lru.first {w : World} {cb mb : Nat} {most : Int} {S : List Node} (h : Lru w cb mb most S) : w.cell? ⟨cb, 6, none⟩ = some (hdv cb S) := by
  have h1 := h.seq
  cases S with
  | nil => exact h1.1.1
  | cons s r => exact h1.1.1
theorem Lru.next {w : World} {cb mb : Nat} {most : Int} {A B : List Node} {s : Node} (h : Lru w cb mb most (A ++ s :: B)) : w.cell? ⟨s.1, 4, none⟩ = some (hdv cb B) := by
  have h1 := h.seq
  rw [show (cb, 2) :: (A ++ s :: B).map lk ++ [(cb, 2)] = ((cb, 2) :: A.map lk) ++ lk s :: (B.map lk ++ [(cb, 2)]) by simp, Seq.split] at h1
  cases B with
  | nil => exact h1.2.1.1
  | cons t r => exact h1.2.1.1

/-- a row of entries that the call has made -/
def MadeE (w wr : World) (E : TypeId) (v : Value) (L : List Ent) : Prop := ∃ a cap, v = .slice a L.length cap ∧ EntRow wr E a cap L ∧ Keeps Nil w wr ∧ ∀ g, blk a = some g → w.heap.size ≤ g
theorem MadeE.nil {w wr : World} {E : TypeId} (hk : Keeps Nil w wr) : MadeE w wr E (.slice none 0 0) [] := ⟨none, 0, rfl, RowAt.nil _ _ _, hk, fun g h => by cases h⟩
theorem MadeE.keeps {w wr : World} {E : TypeId} {v : Value} {L : List Ent} (h : MadeE w wr E v L) : Keeps Nil w wr := by obtain ⟨_, _, _, _, h, _⟩ := h; exact h
theorem madeE_step {w wr W w2 : World} {E : TypeId} {a' a2 : Option Addr} {cap2 : Nat} {L : List Ent} {e : Ent} (hk : Keeps Nil w wr) (hge : ∀ g, blk a' = some g → w.heap.size ≤ g) (hW : Keeps Nil wr W)
    (hr : RowAt w2 E 3 a2 (L.length + 1) cap2 (cellsE L ++ entC e)) (hk2 : Keeps (fun j => blk a' = some j) W w2) (hb : blk a2 = blk a' ∨ blk a2 = some W.heap.size ∧ W.heap.size < w2.heap.size) :
    MadeE w w2 E (.slice a2 (L.length + 1) cap2) (L ++ [e]) := by
  refine ⟨a2, cap2, by simp, ?_, (hk.trans hW).trans' hk2 (fun j hj => .inr (hge j hj)), fun g hg => ?_⟩
  · unfold EntRow
    rw [cellsE_snoc, List.length_append]
    exact hr
  · rcases hb with hb | ⟨hb, _⟩
    · rw [hb] at hg; exact hge g hg
    · rw [hb] at hg
      have h1 := hk.size
      have h2 := hW.size
      cases hg
      omega

theorem run_equalIn_ptr {P : Program} (w : World) {t te : TypeId} {i : TypeInfo} (d : Nat) (ht : P.underlying t = some (.pointer te)) (hi : P.info? te = some i) (hs : i.size ≠ 0) {a b : Addr} {r : Bool} (h : (sameAddr a b).run P w = .ok r w) :
    (Op.equalIn (d + 1) t (.pointer (some a)) (.pointer (some b))).run P w = .ok r w := by
  simp [Op.equalIn, run_underlying ht, sizeOf, typeInfo, hi, hs, h]
theorem run_neq_ptr {P : Program} (w : World) {t te : TypeId} {i : TypeInfo} (ht : P.underlying t = some (.pointer te)) (hi : P.info? te = some i) (hs : i.size ≠ 0) {a b : Addr} {r : Bool} (h : (sameAddr a b).run P w = .ok r w) :
    (binOp .neq t (.pointer (some a)) (.pointer (some b))).run P w = .ok (.bool (!r)) w := by
  simp only [binOp]
  simp [Op.equal, Op.maxDepth, run_equalIn_ptr w 9999 ht hi hs h]
theorem Try.info87 : (Try.prog.info? 87).map (·.size) = some 5 := by kernel_rfl
theorem neq_link (w : World) {a b : Addr} {r : Bool} (h : (sameAddr a b).run Try.prog w = .ok r w) : (binOp .neq 85 (.pointer (some a)) (.pointer (some b))).run Try.prog w = .ok (.bool (!r)) w := by
  cases hi : Try.prog.info? 87 with
  | none => have := Try.info87; rw [hi] at this; cases this
  | some i =>
    have := Try.info87
    rw [hi] at this
    simp only [Option.map_some, Option.some.injEq] at this
    exact run_neq_ptr w Try.underlying85 hi (by omega) h

def AllOut (w : World) (L : List Ent) (e : Ending) (w' : World) : Prop := ∃ v, e = .returned v ∧ MadeE w w' 32 v L

set_option maxHeartbeats 1000000 in
set_option maxRecDepth 100000 in
theorem all_any {w : World} {cb mb : Nat} {most : Int} {S : List Node} (h : Lru w cb mb most S) (hlen : S.length ≤ 1000000) :
    Calls Try.prog 19 #[.pointer (some ⟨cb, 0, none⟩)] w (AllOut w (S.map (·.2))) := by
  obtain ⟨i32, hi, hz0, hz1, hz2⟩ := info_parts Try.info32
  have hf := h.first
  have h' := Lib.hid h
  clear h
  go_enter Try.func19, Try.ntmps19
  go_wp2_with fail
  go_loopg [3, 4] S.length (fun g l x wr => ∃ A B, S = A ++ B ∧ g = B.length ∧ x = hdv cb B ∧ MadeE w wr 32 l (A.map (·.2)))
  case atStart => exact ⟨[], S, rfl, rfl, rfl, MadeE.nil (Keeps.refl _ _)⟩
  case round =>
    obtain ⟨A, B, hS, hg, hx, a', cap', rfl, hr, hkeep, hge⟩ := hrel
    subst hS
    have hg' := Lib.hid hg
    clear hg
    cases B with
    | nil =>
      change _ = Value.pointer (some ⟨cb, 2, none⟩) at hx
      subst hx
      have hr' := Lib.hid hr
      have hkeep' := Lib.hid hkeep
      have hge' := Lib.hid hge
      have heq := neq_link wr (run_sameAddr_same (P := Try.prog) wr ⟨cb, 2, none⟩)
      clear hr hkeep hge
      go_wp2_with fail
      go_ret
      refine ⟨_, rfl, a', cap', by simp, by simpa using hr'.out, hkeep'.out, hge'.out⟩
    | cons s B =>
      change _ = Value.pointer (some ⟨s.1, 0, none⟩) at hx
      subst hx
      have hne := (h'.out.cb_ne (s := s) (by simp)).1
      have en := (h'.out.ent s (by simp)).keeps hkeep (fun h => h)
      have c0 := en.key
      have c1 : _ = _ := en.val
      have c2 : _ = _ := en.dirty
      have c4 := hkeep.cell (h'.out.next) (fun h => h)
      have hr' := Lib.hid hr
      have hkeep' := Lib.hid hkeep
      have hge' := Lib.hid hge
      have hne2 := Ne.symm hne
      have hl : (A.map (·.2)).length ≤ 1000000 := by simp at hlen ⊢; omega
      have hml := Lib.hid (show (A.map (·.2)).length + 1 ≤ maxLen by unfold maxLen; omega)
      have hmb := Lib.hid (show ((A.map (·.2)).length + 1) * 24 ≤ 140737488355328 by omega)
      obtain ⟨csa, ta, ha⟩ := h'.out.blk s.1 (.inr (by simp))
      obtain ⟨csb, tb, hb⟩ := h'.out.blk cb (.inl rfl)
      have heq := neq_link wr (run_sameAddr_other (P := Try.prog) wr (a := ⟨s.1, 0, none⟩) (b := ⟨cb, 2, none⟩) (fun e => by cases e) (hkeep.heap ha (fun h => h)) (hkeep.heap hb (fun h => h)))
      clear hr hkeep hge en ha hb
      go_wp2_with (at_builtin; refine wpList_app _ rfl _ _ 45 rfl 32 i32 (.agg #[.int .i64 0, .int .u64 0, .bool false]) 3 24 Try.underlying45 hi hz0 hz1 hz2 rfl (by decide) a' ((A.map (·.2)).length) cap' (cellsE (A.map (·.2))) rfl _ 1 1 (entC s.2) rfl ?_ (hr'.out.keeps ((Keeps.refl Nil wr).alloc _) (fun _ _ h => h)) (src_ent (ent_new wr s.2 32)) (fun h => by cases h) (entC_one _) (by exact hml.out) (by exact hmb.out); intro a2 cap2 w2 hr2 hk2 hb2; have hM := madeE_step hkeep'.out hge'.out ((Keeps.refl Nil wr).alloc _) hr2 hk2 hb2; have hM' := Lib.hid hM; have c4' := hM.keeps.cell (h'.out.next) (fun h => h); clear hr2 hk2 hb2 hM heq c0 c1 c2 c4)
      go_roundg B.length
      case measure => have := hg'.out; simp at this; omega
      case rel => exact ⟨A ++ [s], B, by simp, rfl, rfl, by have := hM'.out; simpa using this⟩
end Go.Proofs.Ytnickcjkipemmaa
