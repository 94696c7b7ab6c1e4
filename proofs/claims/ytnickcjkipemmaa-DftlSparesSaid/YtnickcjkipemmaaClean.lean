/- walk of Clean, up to the sort -/
import Derived.Test.YtnickcjkipemmaaSpec
namespace Go.Proofs.Ytnickcjkipemmaa
open Go.RowKit

attribute [local go_sem ↓] Go.wp_at_zero Go.wp_at_succ

/-- is an entry told by Clean? -/
def inR (lo hi : Int) (e : Ent) : Bool := e.dirty && decide (lo ≤ e.key) && decide (e.key < hi)
def clrE (lo hi : Int) (e : Ent) : Ent := if inR lo hi e = true then ⟨e.key, e.val, false⟩ else e
def lpick (lo hi : Int) (L : List Ent) : List Ent := L.filter (inR lo hi)
def lclr (lo hi : Int) (L : List Ent) : List Ent := L.map (clrE lo hi)
def clrN (lo hi : Int) (s : Node) : Node := (s.1, clrE lo hi s.2)
theorem clrN_map {lo hi : Int} (S : List Node) : (S.map (clrN lo hi)).map (·.2) = lclr lo hi (S.map (·.2)) := by simp [clrN, lclr, Function.comp_def]
theorem clrN_fst {lo hi : Int} (S : List Node) : (S.map (clrN lo hi)).map (·.1) = S.map (·.1) := by simp [clrN, Function.comp_def]
theorem own_clr {cb mb : Nat} {lo hi : Int} {A B : List Node} {k : Nat} : own cb mb (A.map (clrN lo hi) ++ B) k ↔ own cb mb (A ++ B) k := by
  unfold own
  rw [List.map_append, List.map_append, clrN_fst]

structure CleanIn (w wr : World) (cb mb : Nat) (most lo hi : Int) (A B : List Node) (v : Value) : Prop where
  lru : Lru wr cb mb most (A.map (clrN lo hi) ++ B)
  row : ∃ a' cap', v = .slice a' (lpick lo hi (A.map (·.2))).length cap' ∧ EntRow wr 32 a' cap' (lpick lo hi (A.map (·.2))) ∧ ∀ g, blk a' = some g → w.heap.size ≤ g
  keep : Keeps (own cb mb (A ++ B)) w wr
  old : ∀ k, own cb mb (A ++ B) k → k < w.heap.size

theorem lpick_snoc_in {lo hi : Int} {A : List Ent} {e : Ent} (h : inR lo hi e = true) : lpick lo hi (A ++ [e]) = lpick lo hi A ++ [e] := by simp [lpick, h]
theorem lpick_snoc_out {lo hi : Int} {A : List Ent} {e : Ent} (h : inR lo hi e = false) : lpick lo hi (A ++ [e]) = lpick lo hi A := by simp [lpick, h]
theorem clean_skip {w wr : World} {cb mb : Nat} {most lo hi : Int} {A B : List Node} {s : Node} {v : Value} (h : CleanIn w wr cb mb most lo hi A (s :: B) v) (hs : inR lo hi s.2 = false) : CleanIn w wr cb mb most lo hi (A ++ [s]) B v := by
  have e1 : (A ++ [s]).map (clrN lo hi) ++ B = A.map (clrN lo hi) ++ s :: B := by simp [clrN, clrE, hs]
  have e2 : (A ++ [s]) ++ B = A ++ s :: B := by simp
  have e3 : lpick lo hi ((A ++ [s]).map (·.2)) = lpick lo hi (A.map (·.2)) := by rw [List.map_append]; exact lpick_snoc_out hs
  exact ⟨by rw [e1]; exact h.lru, by rw [e3]; exact h.row, by rw [e2]; exact h.keep, by rw [e2]; exact h.old⟩
theorem clean_take {w wr W w2 : World} {cb mb : Nat} {most lo hi : Int} {A B : List Node} {s : Node} {a' a2 : Option Addr} {cap' cap2 : Nat} (h : CleanIn w wr cb mb most lo hi A (s :: B) (.slice a' (lpick lo hi (A.map (·.2))).length cap')) (hge : ∀ g, blk a' = some g → w.heap.size ≤ g) (hs : inR lo hi s.2 = true) (hW : Keeps Nil wr W)
    (hr : RowAt w2 32 3 a2 ((lpick lo hi (A.map (·.2))).length + 1) cap2 (cellsE (lpick lo hi (A.map (·.2))) ++ entC s.2)) (hk2 : Keeps (fun j => blk a' = some j) W w2) (hb : blk a2 = blk a' ∨ blk a2 = some W.heap.size ∧ W.heap.size < w2.heap.size) :
    CleanIn w (w2.setCell ⟨s.1, 2, none⟩ (.bool false)) cb mb most lo hi (A ++ [s]) B (.slice a2 ((lpick lo hi (A.map (·.2))).length + 1) cap2) := by
  have e2 : (A ++ [s]) ++ B = A ++ s :: B := by simp
  have e3 : lpick lo hi ((A ++ [s]).map (·.2)) = lpick lo hi (A.map (·.2)) ++ [s.2] := by rw [List.map_append]; exact lpick_snoc_in hs
  have hold := h.old
  have hna : ∀ k, own cb mb (A.map (clrN lo hi) ++ s :: B) k → ¬ blk a' = some k := fun k hk e => by
    have h1 := hge k e
    have h2 := hold k (own_clr.1 hk)
    omega
  have hL2 := (h.lru.keeps hW (fun _ _ h => h)).keeps hk2 hna
  have en := hL2.ent s (by simp)
  have hso : own cb mb (A ++ s :: B) s.1 := .inr (.inr (by simp))
  have hsold := hold _ hso
  have n02 : (⟨s.1, 0, none⟩ : Addr) ≠ ⟨s.1, 2, none⟩ := fun h => by cases h
  have n12 : (⟨s.1, 1, none⟩ : Addr) ≠ ⟨s.1, 2, none⟩ := fun h => by cases h
  have hset := (Sets.setCell w2 s.1 2 (.bool false)).mono (U := fun b o => b = s.1 ∧ o < 3) (fun b o h => ⟨h.1, by omega⟩)
  have hge2 : ∀ g, blk a2 = some g → w.heap.size ≤ g := fun g hg => by
    rcases hb with hb | ⟨hb, _⟩
    · rw [hb] at hg; exact hge g hg
    · rw [hb] at hg
      have h1 := h.keep.size
      have h2 := hW.size
      cases hg
      omega
  refine ⟨?_, ⟨a2, cap2, by rw [e3]; simp, ?_, hge2⟩, ?_, by rw [e2]; exact hold⟩
  · have hE := Lru.edit hL2 (e := ⟨s.2.key, s.2.val, false⟩) rfl hset (fun _ _ h => h) ⟨by
      rw [World.cell?_setCell_other _ _ _ _ n02.symm]; exact en.key, by
      rw [World.cell?_setCell_other _ _ _ _ n12.symm]; exact en.val, World.cell?_setCell_same _ _ _ en.dirty⟩
    have e1 : (A ++ [s]).map (clrN lo hi) ++ B = A.map (clrN lo hi) ++ (s.1, ⟨s.2.key, s.2.val, false⟩) :: B := by simp [clrN, clrE, hs]
    rw [e1]; exact hE
  · have hr2 : EntRow w2 32 a2 cap2 (lpick lo hi (A.map (·.2)) ++ [s.2]) := by
      unfold EntRow
      rw [cellsE_snoc, List.length_append]
      exact hr
    rw [e3]
    exact hr2.keeps ((Keeps.refl (· = s.1) w2).setCell (.inl rfl) _) (fun g hg e => by have := hge2 g hg; omega)
  · rw [e2]
    exact (((h.keep.trans (hW.mono (fun _ h => h.elim))).trans' hk2 (fun j hj => .inr (hge j hj))).setCell (.inl hso) _)

set_option maxHeartbeats 2000000 in
set_option maxRecDepth 100000 in
theorem clean_walk {w : World} {cb mb : Nat} {most lo hi : Int} {S : List Node} (h : Lru w cb mb most S) (hlen : S.length ≤ 1000000) {Q : Ending → World → Prop}
    (hsort : ∀ (a : Option Addr) (cap : Nat) (w' : World), CleanIn w w' cb mb most lo hi S [] (.slice a (lpick lo hi (S.map (·.2))).length cap) → Calls Try.prog 43 #[.slice a (lpick lo hi (S.map (·.2))).length cap, .func (.func 44) #[] #[]] w' fun e w'' => e = .returned (.tuple #[]) ∧ Q (.returned (.slice a (lpick lo hi (S.map (·.2))).length cap)) w'') :
    Calls Try.prog 20 #[.pointer (some ⟨cb, 0, none⟩), .int .i64 lo, .int .i64 hi] w Q := by
  obtain ⟨i32, hi', hz0, hz1, hz2⟩ := info_parts Try.info32
  have hf := h.first
  have h' := Lib.hid h
  have hsort' := Lib.hid hsort
  clear h hsort
  go_enter Try.func20, Try.ntmps20
  go_wp2_with fail
  go_loopg [7, 8] S.length (fun g l x wr => ∃ A B, S = A ++ B ∧ g = B.length ∧ x = hdv cb B ∧ CleanIn w wr cb mb most lo hi A B l)
  case atStart => exact ⟨[], S, rfl, rfl, rfl, h'.out, ⟨none, 0, rfl, RowAt.nil _ _ _, fun g h => by cases h⟩, Keeps.refl _ _, fun k hk => h'.out.toLruB.lt hk⟩
  case round =>
    obtain ⟨A, B, hS, hg, hx, hC⟩ := hrel
    subst hS
    have hg' := Lib.hid hg
    clear hg
    cases B with
    | nil =>
      change _ = Value.pointer (some ⟨cb, 2, none⟩) at hx
      subst hx
      obtain ⟨a', cap', rfl, hr, hge⟩ := hC.row
      have heq := neq_link wr (run_sameAddr_same (P := Try.prog) wr ⟨cb, 2, none⟩)
      have hs := hsort'.out
      rw [List.append_nil] at hs
      have hs2 := Lib.hid (hs a' cap' wr (by simpa using hC))
      clear hC hr hge hs hsort'
      go_wp2_with fail
      refine (hs2.out).mono ?_
      rintro e w' ⟨rfl, hQ⟩
      have hQ' := Lib.hid hQ
      clear hQ
      go_wp2_with fail
      exact hQ'.out
    | cons s B =>
      change _ = Value.pointer (some ⟨s.1, 0, none⟩) at hx
      subst hx
      have hne := (hC.lru.cb_ne (s := s) (by simp)).1
      have hne2 := Ne.symm hne
      have en := hC.lru.ent s (by simp)
      have c0 : wr.cell? ⟨s.1, 0, none⟩ = some (.int .i64 s.2.key) := en.key
      have c1 : wr.cell? ⟨s.1, 1, none⟩ = some (.int .u64 s.2.val) := en.val
      have c2 : wr.cell? ⟨s.1, 2, none⟩ = some (.bool s.2.dirty) := en.dirty
      have c4 := hC.lru.next
      obtain ⟨csa, ta, ha⟩ := hC.lru.blk s.1 (.inr (by simp))
      obtain ⟨csb, tb, hb⟩ := hC.lru.blk cb (.inl rfl)
      have heq := neq_link wr (run_sameAddr_other (P := Try.prog) wr (a := ⟨s.1, 0, none⟩) (b := ⟨cb, 2, none⟩) (fun e => by cases e) ha hb)
      clear en ha hb
      by_cases hin : inR lo hi s.2 = true
      · obtain ⟨a', cap', rfl, hr, hge⟩ := hC.row
        have hin' := Lib.hid hin
        unfold inR at hin
        simp only [Bool.and_eq_true, decide_eq_true_eq] at hin
        obtain ⟨⟨hd, h1⟩, h2⟩ := hin
        have hl : (lpick lo hi (A.map (·.2))).length ≤ 1000000 := by
          have := List.length_filter_le (inR lo hi) (A.map (·.2))
          simp at hlen this
          unfold lpick
          omega
        have hml := Lib.hid (show (lpick lo hi (A.map (·.2))).length + 1 ≤ maxLen by unfold maxLen; omega)
        have hmb := Lib.hid (show ((lpick lo hi (A.map (·.2))).length + 1) * 24 ≤ 140737488355328 by omega)
        have cd2 := c2
        rw [hd] at c2
        have hr' := Lib.hid hr
        have hge' := Lib.hid hge
        have hC' := Lib.hid hC
        have hd1 : decide (lo ≤ s.2.key) = true := decide_eq_true h1
        have hd2 : decide (s.2.key < hi) = true := decide_eq_true h2
        have hent : EntAt wr s.1 0 s.2 := ⟨c0, c1, cd2⟩
        have hent' := Lib.hid (show entC s.2 = [.int .i64 s.2.key, .int .u64 s.2.val, .bool true] by unfold entC; rw [hd])
        have hn := Lib.hid (ent_new wr s.2 32)
        have hn2 := hn.out
        rw [hd] at hn2
        have hn3 := Lib.hid hn2
        have hslt := Lib.hid (hC.old s.1 (.inr (.inr (by simp))))
        have hne3 := Lib.hid hC.keep.size
        have hblk := Lib.hid (hC.lru.fro s.1 (.inr (by simp)) 2)
        have hnx := Lib.hid c4
        have hcell2 := Lib.hid cd2
        clear hr hge hC hent hn2 hd h1 h2 cd2 hl
        go_wp2_with (at_builtin; refine wpList_app _ rfl _ _ 45 rfl 32 i32 (.agg #[.int .i64 0, .int .u64 0, .bool false]) 3 24 Try.underlying45 hi' hz0 hz1 hz2 rfl (by decide) a' ((lpick lo hi (A.map (·.2))).length) cap' (cellsE (lpick lo hi (A.map (·.2)))) rfl _ 1 1 (entC s.2) rfl ?_ (hr'.out.keeps ((Keeps.refl Nil wr).alloc _) (fun _ _ h => h)) (src_ent (by exact hn3.out)) (fun h => by cases h) (entC_one _) (by exact hml.out) (by exact hmb.out); intro a2 cap2 w2 hr2 hk2 hb2; have hM := Lib.hid (clean_take hC'.out hge'.out hin'.out ((Keeps.refl Nil wr).alloc _) hr2 hk2 hb2); have hns : ¬ blk a' = some s.1 := fun e => (by have q1 := hge'.out _ e; have q2 := hslt.out; omega); have hkw := ((Keeps.refl (fun j => blk a' = some j) wr).alloc (.cells #[.int .i64 s.2.key, .int .u64 s.2.val, .bool true] 32)).trans hk2; have d2 := hkw.cell hcell2.out hns; have d4 := hkw.cell hnx.out hns; have f2 := hkw.frozen hblk.out (lt_of_cell hcell2.out) hns; clear hr2 hk2 hb2 hkw c0 c1 c2 c4 heq)
        go_roundg B.length
        case measure => have := hg'.out; simp at this; omega
        case rel => exact ⟨A ++ [s], B, by simp, rfl, rfl, by simpa using hM.out⟩
      · have hin0 : inR lo hi s.2 = false := by simpa using hin
        have hM := Lib.hid (clean_skip hC hin0)
        have hcase : s.2.dirty = false ∨ (s.2.dirty = true ∧ ¬ lo ≤ s.2.key) ∨ (s.2.dirty = true ∧ lo ≤ s.2.key ∧ ¬ s.2.key < hi) := by
          unfold inR at hin
          simp only [Bool.and_eq_true, decide_eq_true_eq, not_and] at hin
          cases hd : s.2.dirty with
          | false => exact .inl rfl
          | true =>
            by_cases h1 : lo ≤ s.2.key
            · exact .inr (.inr ⟨rfl, h1, hin ⟨hd, h1⟩⟩)
            · exact .inr (.inl ⟨rfl, h1⟩)
        obtain ⟨a', cap', rfl, hr, hge⟩ := hC.row
        clear hr hge hC hin hin0
        rcases hcase with hd | ⟨hd, h1⟩ | ⟨hd, h1, h2⟩
        · rw [hd] at c2
          clear hd
          go_wp2_with fail
          go_roundg B.length
          case measure => have := hg'.out; simp at this; omega
          case rel => exact ⟨A ++ [s], B, by simp, rfl, rfl, by simpa using hM.out⟩
        · rw [hd] at c2
          have hd1 : decide (lo ≤ s.2.key) = false := decide_eq_false h1
          clear hd
          go_wp2_with fail
          go_roundg B.length
          case measure => have := hg'.out; simp at this; omega
          case rel => exact ⟨A ++ [s], B, by simp, rfl, rfl, by simpa using hM.out⟩
        · rw [hd] at c2
          have hd1 : decide (lo ≤ s.2.key) = true := decide_eq_true h1
          have hd2 : decide (s.2.key < hi) = false := decide_eq_false h2
          clear hd
          go_wp2_with fail
          go_roundg B.length
          case measure => have := hg'.out; simp at this; omega
          case rel => exact ⟨A ++ [s], B, by simp, rfl, rfl, by simpa using hM.out⟩
end Go.Proofs.Ytnickcjkipemmaa
