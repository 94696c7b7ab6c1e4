/- the reference's New, lay, room, Find -/
import Derived.Test.YtmdgbcbnciaikaaU
namespace Go.Proofs.Ytmdgbcbnciaikaa
open Go.RowKit

attribute [local go_sem ↓] Go.wp_at_zero Go.wp_at_succ

structure RefAt (w : World) (rb ob : Nat) (O : List Int) : Prop where
  head : w.heap[rb]? = some (.cells #[.slice (some ⟨ob, 0, none⟩) O.length O.length] 63)
  row : w.heap[ob]? = some (.cells (O.map (Value.int .i64)).toArray 3)
  ne : rb ≠ ob
theorem RefAt.keeps {S : Nat → Prop} {w w' : World} {rb ob : Nat} {O : List Int} (h : RefAt w rb ob O) (hk : Keeps S w w') (h1 : ¬ S rb) (h2 : ¬ S ob) : RefAt w' rb ob O := ⟨hk.heap h.head h1, hk.heap h.row h2, h.ne⟩
theorem RefAt.same {w w' : World} {rb ob : Nat} {O : List Int} (h : RefAt w rb ob O) (hk : Keeps Nil w w') : RefAt w' rb ob O := h.keeps hk (fun h => h) (fun h => h)
theorem RefAt.hd {w : World} {rb ob : Nat} {O : List Int} (h : RefAt w rb ob O) : w.cell? ⟨rb, 0, none⟩ = some (.slice (some ⟨ob, 0, none⟩) O.length O.length) := by rw [cell_of_heap h.head]; rfl
theorem RefAt.cell {w : World} {rb ob : Nat} {O : List Int} (h : RefAt w rb ob O) {k : Nat} {x : Int} (hx : O[k]? = some x) : w.cell? ⟨ob, k, none⟩ = some (.int .i64 x) := by
  rw [cell_of_heap h.row]
  simp [hx]
theorem RefAt.set {w : World} {rb ob : Nat} {O : List Int} (h : RefAt w rb ob O) (k : Nat) (x : Int) : RefAt (w.setCell ⟨ob, k, none⟩ (.int .i64 x)) rb ob (O.set k x) := by
  refine ⟨?_, ?_, h.ne⟩
  · rw [heap_setCell_other h.ne, List.length_set]; exact h.head
  · rw [heap_setCell_same h.row]
    congr 2
    apply Array.toList_inj.1
    simp [List.map_set]

set_option maxHeartbeats 4000000 in
theorem rnew_bad {keys : Int} (hk : keys < 1 ∨ 4096 < keys) (w : World) : Calls Try.prog 15 #[.int .i64 keys] w fun e w' => e = .returned (.tuple #[.pointer none, .bool false]) ∧ w = w' := by
  by_cases h1 : keys < 1
  · clear hk
    go_enter Try.func15, Try.ntmps15
    go_wp2_with fail
    go_ret2
    exact ⟨rfl, rfl⟩
  · have h2 : 4096 < keys := by omega
    clear hk
    go_enter Try.func15, Try.ntmps15
    go_wp2_with fail
    go_ret2
    exact ⟨rfl, rfl⟩
theorem Try.info3' : (Try.prog.info? 3).map (fun i => (i.zero, i.size, i.bytes)) = some (some (.int .i64 0), 1, 8) := by kernel_rfl
set_option maxHeartbeats 4000000 in
theorem rnew_any {n : Nat} (h1 : 1 ≤ n) (h2 : n ≤ 4096) (w : World) : Calls Try.prog 15 #[.int .i64 (n : Int)] w fun e w' => ∃ rb ob, e = .returned (.tuple #[.pointer (some ⟨rb, 0, none⟩), .bool true]) ∧ RefAt w' rb ob (List.replicate n 0) ∧ Keeps Nil w w' ∧ w.heap.size ≤ rb ∧ w.heap.size ≤ ob := by
  obtain ⟨i3, hi, hz0, hz1, hz2⟩ := info_parts Try.info3'
  have hmk := Lib.hid (fun W => run_make1 (P := Try.prog) W 22 3 i3 (.int .i64 0) 8 Try.underlying22 hi hz0 hz1 hz2 rfl .i64 .i64 n (by omega) (by omega))
  have hm := hmk.out
  have g1 : ¬ (n : Int) < 1 := by omega
  have g2 : ¬ 4096 < (n : Int) := by omega
  clear hi hz0 hz1 hz2 h1 h2
  go_enter Try.func15, Try.ntmps15
  go_wp2_with fail
  go_ret2
  refine ⟨w.heap.size + 1, by rfl, w.heap.size, ⟨?_, ?_, by omega⟩, ((Keeps.refl Nil w).alloc _).alloc _, by omega, by omega⟩
  · have e : (w.alloc (.cells (Array.replicate n (Value.int .i64 0)) 3)).heap.size = w.heap.size + 1 := by simp
    rw [← e, List.length_replicate]
    exact heap_alloc_new _ _
  · rw [List.map_replicate, show (List.replicate n (Value.int .i64 0)).toArray = Array.replicate n (Value.int .i64 0) by simp]
    exact heap_alloc_old (heap_alloc_new _ _)

set_option maxHeartbeats 4000000 in
theorem lay_any {w : World} {rb ob b z : Nat} {O : List Int} {id : Int} (h : RefAt w rb ob O) (hb : b + z ≤ O.length) (hl : O.length ≤ 4096) :
    Calls Try.prog 33 #[.pointer (some ⟨rb, 0, none⟩), .int .i64 b, .int .i64 z, .int .i64 id] w fun e w' => e = .returned (.tuple #[]) ∧ RefAt w' rb ob (layL O b id z) ∧ Keeps (· = ob) w w' := by
  have h' := Lib.hid h
  have x1 : wrap64 ((b : Int) + (z : Int)) = (b : Int) + (z : Int) := by unfold wrap64; omega
  obtain ⟨n, hn⟩ : ∃ n, O.length = n := ⟨_, rfl⟩
  have hn' := Lib.hid hn
  rw [hn] at hb hl
  clear h hn
  go_enter Try.func33, Try.ntmps33
  go_wp2_with fail
  go_loopw [8] (fun c wx => ∃ q : Nat, q ≤ z ∧ c = .int .i64 ((b : Int) + q) ∧ RefAt wx rb ob (layL O b id q) ∧ Keeps (· = ob) w wx) (fun c _ => (b : Int).toNat + z - (intOf c).toNat)
  case atStart => exact ⟨0, by omega, by simp, h'.out, Keeps.refl _ _⟩
  case round =>
    obtain ⟨q, hq, rfl, hR, hK⟩ := hrel
    have hK' := Lib.hid hK
    have hR' := Lib.hid hR
    by_cases hlt : q < z
    · have hd := hR.hd
      rw [layL_len, hn'.out] at hd
      obtain ⟨y, hget⟩ : ∃ y, (layL O b id q)[b + q]? = some y := ⟨_, List.getElem?_eq_getElem (by rw [layL_len, hn'.out]; omega)⟩
      have c0 := hR.cell hget
      have f0 := frozen_of_heap hR.row (b + q)
      have e1 : (b : Int) + (q : Int) = ((b + q : Nat) : Int) := by omega
      rw [e1]
      obtain ⟨k, hk⟩ : ∃ k, b + q = k := ⟨_, rfl⟩
      have hk' := Lib.hid hk
      rw [hk] at c0 f0 ⊢
      have g1 : (0 : Int) ≤ (k : Int) := by omega
      have g2 : (k : Int) < (n : Int) := by omega
      have g3 : (k : Int) < (b : Int) + (z : Int) := by omega
      clear hK hR hget e1 hk
      go_wp2_with fail
      go_roundw
      case rel => exact ⟨q + 1, by omega, by have := hk'.out; go_num, by show RefAt _ rb ob ((layL O b id q).set (b + q) id); rw [hk'.out]; exact hR'.out.set k id, hK'.out.setCell (p := ⟨ob, k, none⟩) (.inl rfl) _⟩
      case measure => have := hk'.out; simp [intOf]; omega
    · have hqz : q = z := by omega
      subst hqz
      have g3 : ¬ (b : Int) + (q : Int) < (b : Int) + (q : Int) := by omega
      clear hK hR
      go_wp2_with fail
      go_end0
      exact ⟨rfl, hR'.out, hK'.out⟩
theorem all_drop {O : List Int} {b z q : Nat} (hq : q < z) {x : Int} (hx : O[b + q]? = some x) : ((O.drop (b + q)).take (z - q)).all (fun x => x == 0) = ((x == 0) && ((O.drop (b + (q + 1))).take (z - (q + 1))).all (fun x => x == 0)) := by
  obtain ⟨h, e⟩ := List.getElem?_eq_some_iff.1 hx
  obtain ⟨m, hm⟩ : ∃ m, z - q = m + 1 := ⟨z - q - 1, by omega⟩
  rw [List.drop_eq_getElem_cons h, e, hm, List.take_succ_cons, List.all_cons, show z - (q + 1) = m by omega]
  rfl
set_option maxRecDepth 100000 in
set_option maxHeartbeats 4000000 in
theorem room_any {w : World} {rb ob b : Nat} {O : List Int} {size : Int} (h : RefAt w rb ob O) (hs : 1 ≤ size) (hs1 : size < 9223372036854775808) (hb : b ≤ 4096) (hl : O.length ≤ 4096) :
    Calls Try.prog 32 #[.pointer (some ⟨rb, 0, none⟩), .int .i64 b, .int .i64 size] w fun e w' => e = .returned (.bool (roomB O b size)) ∧ Keeps Nil w w' := by
  have h' := Lib.hid h
  have hd := h.hd
  obtain ⟨v, hv⟩ : ∃ v, roomB O b size = v := ⟨_, rfl⟩
  have hv' := Lib.hid hv
  obtain ⟨n, hn⟩ : ∃ n, O.length = n := ⟨_, rfl⟩
  have hn' := Lib.hid hn
  rw [hn] at hl hd
  rw [hv]
  clear h hv hn
  have x1 : wrap64 ((n : Int) - size) = (n : Int) - size := by unfold wrap64; omega
  by_cases g1 : (n : Int) < size
  · have e : roomB O b size = false := by unfold roomB; rw [decide_eq_false (by rw [hn'.out]; omega)]; rfl
    have e' := Lib.hid (hv'.out.symm.trans e)
    clear e hv'
    go_enter Try.func32, Try.ntmps32
    go_wp2_with fail
    go_ret
    exact ⟨ret_bool e'.out.symm, Keeps.refl _ _⟩
  · by_cases g2 : (n : Int) - size < (b : Int)
    · have e : roomB O b size = false := by unfold roomB; rw [decide_eq_false (by rw [hn'.out]; omega)]; rfl
      have e' := Lib.hid (hv'.out.symm.trans e)
      clear e hv'
      go_enter Try.func32, Try.ntmps32
      go_wp2_with fail
      go_ret
      exact ⟨ret_bool e'.out.symm, Keeps.refl _ _⟩
    · obtain ⟨z, rfl⟩ : ∃ z : Nat, size = (z : Int) := ⟨size.toNat, by omega⟩
      have e : ((O.drop (b + 0)).take (z - 0)).all (fun x => x == 0) = v := by
        have := hv'.out
        unfold roomB at this
        rw [decide_eq_true (by rw [hn'.out]; omega), Bool.true_and] at this
        simpa using this
      have e' := Lib.hid e
      have x2 : wrap64 ((b : Int) + (z : Int)) = (b : Int) + (z : Int) := by unfold wrap64; omega
      clear e hv'
      go_enter Try.func32, Try.ntmps32
      go_wp2_with fail
      go_loopw [7] (fun c wx => ∃ q : Nat, q ≤ z ∧ c = .int .i64 ((b + q : Nat) : Int) ∧ Hid (((O.drop (b + q)).take (z - q)).all (fun x => x == 0) = v) ∧ Keeps Nil w wx) (fun c _ => b + z - (intOf c).toNat)
      case atStart => exact ⟨0, by omega, by simp, e', Keeps.refl _ _⟩
      case round =>
        obtain ⟨q, hq, rfl, hA, hK⟩ := hrel
        have hK' := Lib.hid hK
        have hd2 := (h'.out.same hK).hd
        rw [hn'.out] at hd2
        by_cases hlt : q < z
        · obtain ⟨y, hget⟩ : ∃ y, O[b + q]? = some y := ⟨_, List.getElem?_eq_getElem (by rw [hn'.out]; omega)⟩
          have c0 := (h'.out.same hK).cell hget
          have hi := all_drop hlt hget
          rw [hA.out] at hi
          have hi' := Lib.hid hi
          obtain ⟨k, hk⟩ : ∃ k, b + q = k := ⟨_, rfl⟩
          have hk' := Lib.hid hk
          rw [hk] at c0 ⊢
          have g3 : (0 : Int) ≤ (k : Int) := by omega
          have g4 : (k : Int) < (n : Int) := by omega
          have g5 : (k : Int) < (b : Int) + (z : Int) := by omega
          clear hK hget hA hi hk hd
          by_cases hy : y = 0
          · subst hy
            go_wp2_with fail
            go_roundw
            case rel => exact ⟨q + 1, by omega, by have := hk'.out; go_num, Lib.hid (by have := hi'.out; simpa using this.symm), hK'.out⟩
            case measure => have := hk'.out; simp [intOf]; omega
          · have ev : v = false := by rw [hi'.out]; simp [hy]
            have ev' := Lib.hid ev
            have e1 : (y != 0) = true := by simpa using hy
            clear ev hy x1 x2
            go_wp2_with fail
            go_ret
            exact ⟨ret_bool ev'.out.symm, hK'.out⟩
        · have hqz : q = z := by omega
          have ev : v = true := by have := hA.out; rw [hqz, Nat.sub_self] at this; simpa using this.symm
          have ev' := Lib.hid ev
          subst hqz
          have g5 : ¬ ((b + q : Nat) : Int) < (b : Int) + (q : Int) := by omega
          clear hK hA ev hd
          go_wp2_with fail
          go_ret
          exact ⟨ret_bool ev'.out.symm, hK'.out⟩

theorem heap_alloc2_old {w : World} (A B : Obj) : ((w.alloc A).alloc B).heap[w.heap.size]? = some A := heap_alloc_old (heap_alloc_new _ _)
theorem heap_alloc2_new {w : World} (A B : Obj) : ((w.alloc A).alloc B).heap[w.heap.size + 1]? = some B := by
  have e : (w.alloc A).heap.size = w.heap.size + 1 := by simp
  rw [← e]
  exact heap_alloc_new _ _
set_option maxHeartbeats 4000000 in
theorem rfind_low {w : World} {rb ob : Nat} {O : List Int} {id : Int} (h : RefAt w rb ob O) (h1 : id < 1) :
    Calls Try.prog 20 #[.pointer (some ⟨rb, 0, none⟩), .int .i64 id] w fun e w' => e = .returned (.tuple #[spV sp0, .int .i64 140]) ∧ Keeps Nil w w' := by
  have hd := (h.same (((Keeps.refl Nil w).alloc zblk).alloc (.cells #[.int .i64 id, .int .i64 0, .int .i64 0] 30))).hd
  obtain ⟨n, hn⟩ : ∃ n, O.length = n := ⟨_, rfl⟩
  rw [hn] at hd
  simp only [zblk] at hd
  have g1 : ¬ 1 ≤ id := by omega
  clear h hn
  go_enter Try.func20, Try.ntmps20
  go_wp2_with fail
  have hb := heap_alloc2_old (w := w) (.cells #[.int .i64 0, .int .i64 0, .int .i64 0] 30) (.cells #[.int .i64 id, .int .i64 0, .int .i64 0] 30)
  have hs := heap_alloc2_new (w := w) (.cells #[.int .i64 0, .int .i64 0, .int .i64 0] 30) (.cells #[.int .i64 id, .int .i64 0, .int .i64 0] 30)
  have hk := ((Keeps.refl Nil w).alloc (.cells #[.int .i64 0, .int .i64 0, .int .i64 0] 30)).alloc (.cells #[.int .i64 id, .int .i64 0, .int .i64 0] 30)
  obtain ⟨W0, hW0⟩ : ∃ W0, (w.alloc (.cells #[.int .i64 0, .int .i64 0, .int .i64 0] 30)).alloc (.cells #[.int .i64 id, .int .i64 0, .int .i64 0] 30) = W0 := ⟨_, rfl⟩
  rw [hW0] at hb hs hk hd ⊢
  have a0 := cell_of_heap hb 0
  have a1 := cell_of_heap hb 1
  have a2 := cell_of_heap hb 2
  have f0 := frozen_of_heap hb 0
  have f1 := frozen_of_heap hb 1
  have f2 := frozen_of_heap hb 2
  have s2 := cell_of_heap hs 2
  simp at a0 a1 a2 s2
  have y := Lib.hid (cells3 W0 w.heap.size (v0 := .int .i64 0) (v1 := .int .i64 0) (v2 := .int .i64 0) a0 a1 a2)
  have hk' := Lib.hid hk
  clear hW0 hb hs hk
  go_loopw [7] (fun c wx => c = .int .i64 0 ∧ wx = W0) (fun _ _ => 0)
  case atStart => exact ⟨rfl, rfl⟩
  case round =>
    obtain ⟨rfl, rfl⟩ := hrel
    by_cases h0 : (0 : Int) < (n : Int)
    · go_wp2_with fail
      obtain ⟨y0, y1, y2⟩ := y.out
      exact bodyPost_ret (v := .tuple #[spV sp0, .int .i64 140]) (by simp [results, Try.results20, go_sem, spV, sp0, y0, y1, y2]) rfl ⟨rfl, hk'.out.set3 (.inr (Nat.le_refl _)) _ _ _ _ _ _⟩
    · go_wp2_with fail
      obtain ⟨y0, y1, y2⟩ := y.out
      exact bodyPost_ret (v := .tuple #[spV sp0, .int .i64 140]) (by simp [results, Try.results20, go_sem, spV, sp0, y0, y1, y2]) rfl ⟨rfl, hk'.out.set3 (.inr (Nat.le_refl _)) _ _ _ _ _ _⟩

set_option maxRecDepth 100000 in
set_option maxHeartbeats 8000000 in
theorem rfind_walk {w : World} {rb ob : Nat} {O : List Int} {id B Z : Int} (h : RefAt w rb ob O) (h1 : 1 ≤ id) (hl : O.length ≤ 4096) (hf : fnd id O 0 0 0 = (B, Z)) :
    Calls Try.prog 20 #[.pointer (some ⟨rb, 0, none⟩), .int .i64 id] w fun e w' => e = .returned (.tuple #[spV (if Z = 0 then sp0 else ⟨id, B, Z⟩), .int .i64 (if Z = 0 then 140 else 0)]) ∧ Keeps Nil w w' := by
  obtain ⟨n, hn⟩ : ∃ n, O.length = n := ⟨_, rfl⟩
  have hn' := Lib.hid hn
  have hz := RefAt.same h (((Keeps.refl Nil w).alloc (.cells #[.int .i64 0, .int .i64 0, .int .i64 0] 30)).alloc (.cells #[.int .i64 id, .int .i64 0, .int .i64 0] 30))
  have hrb := lt_of_heap h.head
  have hob := lt_of_heap h.row
  obtain ⟨rv, hrv⟩ : ∃ rv, spV (if Z = 0 then sp0 else ⟨id, B, Z⟩) = rv := ⟨_, rfl⟩
  obtain ⟨re, hre⟩ : ∃ re, (if Z = 0 then (140 : Int) else 0) = re := ⟨_, rfl⟩
  rw [hrv, hre]
  have hrv' := Lib.hid hrv
  have hre' := Lib.hid hre
  have hf' := Lib.hid hf
  rw [hn] at hl
  clear h hn hrv hre hf
  go_enter Try.func20, Try.ntmps20
  go_wp2_with fail
  have hb := heap_alloc2_old (w := w) (.cells #[.int .i64 0, .int .i64 0, .int .i64 0] 30) (.cells #[.int .i64 id, .int .i64 0, .int .i64 0] 30)
  have hs := heap_alloc2_new (w := w) (.cells #[.int .i64 0, .int .i64 0, .int .i64 0] 30) (.cells #[.int .i64 id, .int .i64 0, .int .i64 0] 30)
  have hk := ((Keeps.refl Nil w).alloc (.cells #[.int .i64 0, .int .i64 0, .int .i64 0] 30)).alloc (.cells #[.int .i64 id, .int .i64 0, .int .i64 0] 30)
  obtain ⟨W0, hW0⟩ : ∃ W0, (w.alloc (.cells #[.int .i64 0, .int .i64 0, .int .i64 0] 30)).alloc (.cells #[.int .i64 id, .int .i64 0, .int .i64 0] 30) = W0 := ⟨_, rfl⟩
  rw [hW0] at hb hs hk hz ⊢
  obtain ⟨sb, hsb⟩ : ∃ sb, w.heap.size + 1 = sb := ⟨_, rfl⟩
  rw [hsb] at hs ⊢
  have hz' := Lib.hid hz
  have hb' := Lib.hid hb
  have hs' := Lib.hid hs
  have hk' := Lib.hid hk
  have hsb' := Lib.hid hsb
  clear hW0 hb hs hk hz hsb
  go_loopw [7] (fun c wx => ∃ (q : Nat) (b z : Int), q ≤ n ∧ c = .int .i64 q ∧ 0 ≤ z ∧ z ≤ q ∧ wx.heap[sb]? = some (.cells #[.int .i64 id, .int .i64 b, .int .i64 z] 30) ∧ Keeps (· = sb) W0 wx ∧ Hid (fnd id (O.drop q) q b z = (B, Z))) (fun c _ => n - (intOf c).toNat)
  case atStart => exact ⟨0, 0, 0, by omega, rfl, by omega, by omega, hs'.out, Keeps.refl _ _, by simpa using hf'⟩
  case round =>
    obtain ⟨q, b, z, hq, rfl, hz0, hz1, hh, hK, hF⟩ := hrel
    have hK' := Lib.hid hK
    have hh' := Lib.hid hh
    have hR := hz'.out.keeps hK (by have := hsb'.out; omega) (by have := hsb'.out; omega)
    have hd := hR.hd
    rw [hn'.out] at hd
    have c0 := cell_of_heap hh 0
    have c1 := cell_of_heap hh 1
    have c2 := cell_of_heap hh 2
    have u0 := frozen_of_heap hh 0
    have u1 := frozen_of_heap hh 1
    have u2 := frozen_of_heap hh 2
    simp at c0 c1 c2
    by_cases hlt : q < n
    · obtain ⟨y, hget⟩ : ∃ y, O[q]? = some y := ⟨_, List.getElem?_eq_getElem (by rw [hn'.out]; omega)⟩
      have e0 := hR.cell hget
      have hi := fnd_drop (id := id) hget b z
      rw [hF.out] at hi
      have hi' := Lib.hid hi
      have g3 : (0 : Int) ≤ (q : Int) := by omega
      have g4 : (q : Int) < (n : Int) := by omega
      clear hK hget hF hi hR hrb hob
      by_cases hy : y = id
      · subst hy
        have x1 : wrap64 (z + 1) = z + 1 := by unfold wrap64; omega
        by_cases hzz : z = 0
        · subst hzz
          go_wp2_with fail
          go_roundw
          case rel => exact ⟨q + 1, (q : Int), 1, by omega, by go_num, by omega, by omega, by rw [heap_setCell_same (heap_setCell_same hh'.out 1 (.int .i64 (q : Int))) 2 (.int .i64 1)]; rfl, (hK'.out.setCell (p := ⟨sb, 1, none⟩) (.inl rfl) _).setCell (p := ⟨sb, 2, none⟩) (.inl rfl) _, Lib.hid (by have := hi'.out; simpa using this.symm)⟩
          case measure => simp [intOf]; omega
        · go_wp2_with fail
          go_roundw
          case rel => exact ⟨q + 1, b, z + 1, by omega, by go_num, by omega, by omega, by rw [heap_setCell_same hh'.out 2 (.int .i64 (z + 1))]; rfl, hK'.out.setCell (p := ⟨sb, 2, none⟩) (.inl rfl) _, Lib.hid (by have := hi'.out; simpa [hzz] using this.symm)⟩
          case measure => simp [intOf]; omega
      · have e1 : (y == id) = false := beq_eq_false_iff_ne.2 hy
        go_wp2_with fail
        go_roundw
        case rel => exact ⟨q + 1, b, z, by omega, by go_num, by omega, by omega, hh'.out, hK'.out, Lib.hid (by have := hi'.out; rw [if_neg hy] at this; exact this.symm)⟩
        case measure => simp [intOf]; omega
    · have hqn : q = n := by omega
      have hFe := hF.out
      rw [hqn, ← hn'.out, List.drop_length] at hFe
      have hBZ : b = B ∧ z = Z := by
        have h2 : (b, z) = (B, Z) := hFe
        exact ⟨congrArg Prod.fst h2, congrArg Prod.snd h2⟩
      obtain ⟨rfl, rfl⟩ := hBZ
      have hb2 := hK.heap hb'.out (by have := hsb'.out; omega)
      have a0 := cell_of_heap hb2 0
      have a1 := cell_of_heap hb2 1
      have a2 := cell_of_heap hb2 2
      have f0 := frozen_of_heap hb2 0
      have f1 := frozen_of_heap hb2 1
      have f2 := frozen_of_heap hb2 2
      simp at a0 a1 a2
      have y0 := Lib.hid (cells3 wr w.heap.size (v0 := .int .i64 0) (v1 := .int .i64 0) (v2 := .int .i64 0) a0 a1 a2)
      have y1 := Lib.hid (cells3 wr w.heap.size (v0 := .int .i64 id) (v1 := .int .i64 b) (v2 := .int .i64 z) a0 a1 a2)
      have hKw := Lib.hid (hk'.out.trans' hK (fun j hj => .inr (by have := hsb'.out; omega)))
      have n1 : ¬ w.heap.size = sb := by have := hsb'.out; omega
      have n2 : ¬ sb = w.heap.size := by have := hsb'.out; omega
      clear hFe hF hK hR hb2 hrb hob
      by_cases hzz : z = 0
      · subst hzz
        have r1 := hrv'.out
        have r2 := hre'.out
        rw [if_pos rfl] at r1 r2
        have r1' := Lib.hid r1
        have r2' := Lib.hid r2
        clear r1 r2
        go_wp2_with fail
        obtain ⟨q0, q1, q2⟩ := y0.out
        exact bodyPost_ret (v := .tuple #[spV sp0, .int .i64 140]) (by simp [results, Try.results20, go_sem, spV, sp0, q0, q1, q2]) rfl ⟨by rw [← r1'.out, ← r2'.out], hKw.out.set3 (.inr (Nat.le_refl _)) _ _ _ _ _ _⟩
      · have r1 := hrv'.out
        have r2 := hre'.out
        rw [if_neg hzz] at r1 r2
        have r1' := Lib.hid r1
        have r2' := Lib.hid r2
        have e1 : (z == 0) = false := beq_eq_false_iff_ne.2 hzz
        clear r1 r2
        go_wp2_with fail
        obtain ⟨q0, q1, q2⟩ := y1.out
        exact bodyPost_ret (v := .tuple #[spV ⟨id, b, z⟩, .int .i64 0]) (by simp [results, Try.results20, go_sem, spV, q0, q1, q2]) rfl ⟨by rw [← r1'.out, ← r2'.out], hKw.out.set3 (.inr (Nat.le_refl _)) _ _ _ _ _ _⟩

theorem rfind_any {w : World} {rb ob : Nat} {keys : Int} {T : List Spc} {O : List Int} (h : RefAt w rb ob O) (hR : Rel keys T O) (hok : TabOk keys T) (hk : keys ≤ 4096) (id : Int) :
    Calls Try.prog 20 #[.pointer (some ⟨rb, 0, none⟩), .int .i64 id] w fun e w' => e = .returned (.tuple #[spV (tat T id), .int .i64 (ferr (tat T id))]) ∧ Keeps Nil w w' := by
  by_cases h1 : id < 1
  · rw [tat_out (.inl h1)]
    exact rfind_low h h1
  · have hlen := hR.len
    have h2 : 1 ≤ id := by omega
    have hw := rfind_walk (id := id) (B := (tat T id).base) (Z := (tat T id).size) h h2 (by omega) (hR.find hok h2)
    refine hw.mono ?_
    rintro e w' ⟨rfl, hk⟩
    refine ⟨?_, hk⟩
    by_cases h0 : tat T id = sp0
    · rw [h0]; rfl
    · have hsz : ¬ (tat T id).size = 0 ∧ (tat T id).id = id := by
        rcases id_cases id with h2 | h2 | ⟨i, hi, rfl⟩
        · exact absurd (tat_out (.inl h2)) h0
        · exact absurd (tat_out (.inr h2)) h0
        · obtain ⟨h3, h4⟩ := tat_id hok hi h0
          exact ⟨by have := h4.size; omega, h3⟩
      have he : ferr (tat T id) = 0 := if_neg h0
      rw [if_neg hsz.1, if_neg hsz.1, he]
      have : (⟨id, (tat T id).base, (tat T id).size⟩ : Spc) = tat T id := by
        have h3 := hsz.2
        generalize tat T id = s at *
        obtain ⟨a, b, c⟩ := s
        simp only at h3
        rw [h3]
      rw [this]
end Go.Proofs.Ytmdgbcbnciaikaa
