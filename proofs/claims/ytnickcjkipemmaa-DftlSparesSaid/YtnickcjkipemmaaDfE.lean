/- again: what was cleaned has changed again -/
import Derived.Test.YtnickcjkipemmaaDfD
namespace Go.Proofs.Ytnickcjkipemmaa
open Go.RowKit

def markE (M : List Ent) (e : Ent) : Ent := ⟨e.key, e.val, e.dirty || lhas e.key M⟩
def markL (M L : List Ent) : List Ent := L.map (markE M)
theorem mark_clr {lo hi : Int} {L M : List Ent} (hM : CleanOf lo hi L M) (hn : (L.map (·.key)).Nodup) : markL M (lclr lo hi L) = L := by
  unfold markL lclr
  rw [List.map_map]
  have : ∀ e ∈ L, (markE M ∘ clrE lo hi) e = e := by
    intro e he
    show markE M (clrE lo hi e) = e
    unfold clrE
    by_cases hin : inR lo hi e = true
    · rw [if_pos hin]
      have hm : e ∈ M := hM.1.mem_iff.2 (List.mem_filter.2 ⟨he, hin⟩)
      have hh : lhas e.key M = true := lhas_true.2 (List.mem_map_of_mem hm)
      have hd : e.dirty = true := by unfold inR at hin; simp only [Bool.and_eq_true] at hin; exact hin.1.1
      unfold markE
      simp only [hh, Bool.false_or]
      rw [← hd]
    · rw [if_neg hin]
      unfold markE
      cases hh : lhas e.key M with
      | false => simp
      | true =>
        obtain ⟨x, hx, hxk⟩ := List.mem_map.1 (lhas_true.1 hh)
        have hxl := List.mem_filter.1 (hM.1.mem_iff.1 hx)
        have e1 := lget_of_mem hn hxl.1
        have e2 := lget_of_mem hn he
        rw [hxk, e2] at e1
        cases e1
        exact absurd hxl.2 hin
  rw [List.map_congr_left this, List.map_id']
theorem lget_app_none {k : Int} {X Y : List Ent} (h : lhas k X = false) : lget k (X ++ Y) = lget k Y ∧ ldel k (X ++ Y) = X ++ ldel k Y := by
  induction X with
  | nil => exact ⟨rfl, rfl⟩
  | cons x r ih =>
    rw [lhas_false, List.map_cons, List.mem_cons, not_or] at h
    have h2 := ih (lhas_false.2 h.2)
    rw [List.cons_append, lget, ldel, if_neg (Ne.symm h.1), if_neg (Ne.symm h.1), h2.2]
    exact ⟨h2.1, rfl⟩
theorem markL_keys (M L : List Ent) : (markL M L).map (·.key) = L.map (·.key) := by unfold markL; rw [List.map_map]; rfl
/-- one entry is put again -/
theorem again_step {most : Int} {M A B : List Ent} {x : Ent} (hn : ((B ++ x :: A).map (·.key)).Nodup) :
    lput most ⟨x.key, x.val, x.dirty || lhas x.key M⟩ (markL M A ++ (B ++ [x])) = markL M (x :: A) ++ B := by
  have hn' := hn
  rw [List.map_append, List.map_cons, List.nodup_append, List.nodup_cons] at hn
  obtain ⟨_, ⟨h1, _⟩, h2⟩ := hn
  have hA : lhas x.key (markL M A) = false := lhas_false.2 (by rw [markL_keys]; exact h1)
  have hB : lhas x.key B = false := lhas_false.2 (fun h => h2 _ h _ (by simp) rfl)
  obtain ⟨a1, a2⟩ := lget_app_none (Y := B ++ [x]) hA
  obtain ⟨b1, b2⟩ := lget_app_none (Y := [x]) hB
  unfold lput
  show (match lget x.key _ with | some y => Ent.mk x.key x.val (y.dirty || (x.dirty || lhas x.key M)) :: ldel x.key _ | none => _) = _
  rw [a1, b1, lget, if_pos rfl]
  simp only
  rw [a2, b2, ldel, if_pos rfl, List.append_nil]
  unfold markL markE
  simp

/-- the keys that were cleaned, in a map -/
def DirtyMap (w : World) (tb : Nat) (K : List Ent) : Prop := ∃ f, MapAt w tb f ∧ ∀ k, mget k f = if lhas k K = true then some (.bool true) else none
theorem lhas_snoc {k : Int} {K : List Ent} {x : Ent} : lhas k (K ++ [x]) = (lhas k K || decide (x.key = k)) := by
  cases h : lhas k K with
  | true =>
    rw [lhas_true] at h
    rw [Bool.true_or, lhas_true, List.map_append]
    exact List.mem_append_left _ h
  | false =>
    rw [Bool.false_or]
    rw [lhas_false] at h
    by_cases hx : x.key = k
    · rw [decide_eq_true hx, lhas_true, List.map_append]; simp [hx]
    · rw [decide_eq_false hx, lhas_false, List.map_append]
      simp only [List.map_cons, List.map_nil, List.mem_append, List.mem_cons, List.not_mem_nil, or_false, not_or]
      exact ⟨h, fun e => hx e.symm⟩
theorem DirtyMap.keeps {T : Nat → Prop} {w w' : World} {tb : Nat} {K : List Ent} (h : DirtyMap w tb K) (hk : Keeps T w w') (hn : ¬ T tb) : DirtyMap w' tb K := by
  obtain ⟨f, h1, h2⟩ := h
  exact ⟨f, h1.keeps hk hn, h2⟩
theorem dirty_snoc {f : List (Int × Value)} {K : List Ent} {x : Ent} (h : ∀ k, mget k f = if lhas k K = true then some (.bool true) else none) (k : Int) :
    mget k (mset x.key (.bool true) f) = if lhas k (K ++ [x]) = true then some (.bool true) else none := by
  rw [mget_set, lhas_snoc, h]
  by_cases hx : k = x.key
  · rw [if_pos hx, decide_eq_true hx.symm, Bool.or_true, if_pos rfl]
  · rw [if_neg hx, decide_eq_false (Ne.symm hx), Bool.or_false]
theorem take_snoc {L : List Ent} {j : Nat} (h : j < L.length) : L.take (j + 1) = L.take j ++ [L.getD j ent0] := by
  rw [List.take_add_one, List.getD_eq_getElem?_getD, List.getElem?_eq_getElem h]; rfl

theorem zero4 (W : World) : (zeroValue 4).run Try.prog W = .ok (.bool false) W := by kernel_rfl
structure AgainIn (w2 wr : World) (cb tb : Nat) (most : Int) (M A B : List Ent) (O : Nat → Prop) (O' : Nat → Prop) : Prop where
  lru : LruX wr cb most (markL M A ++ B) O'
  map : DirtyMap wr tb M
  keep : Keeps O w2 wr
  grow : Grow O O' w2 wr
  old : ∀ k, O k → k < w2.heap.size
  tbn : ¬ O tb ∧ tb < w2.heap.size
theorem AgainIn.tb' {w2 wr : World} {cb tb : Nat} {most : Int} {M A B : List Ent} {O O' : Nat → Prop} (h : AgainIn w2 wr cb tb most M A B O O') : ¬ O' tb := fun ho => by
  rcases h.grow tb ho with h1 | h1
  · exact h.tbn.1 h1
  · have := h.tbn.2; omega
theorem AgainIn.next {w2 wr W w5 : World} {cb tb : Nat} {most : Int} {M A B A' B' : List Ent} {O O' : Nat → Prop} (h : AgainIn w2 wr cb tb most M A B O O') (hW : Keeps Nil wr W) (hc : ∃ O5, LruX w5 cb most (markL M A' ++ B') O5 ∧ Keeps O' W w5 ∧ Grow O' O5 W w5) :
    ∃ O5, AgainIn w2 w5 cb tb most M A' B' O O5 := by
  obtain ⟨O5, h1, h2, h3⟩ := hc
  have hs := h.keep.size
  have hs2 := hW.size
  have hs3 := h2.size
  refine ⟨O5, h1, (h.map.keeps hW (fun h => h)).keeps h2 h.tb', (h.keep.trans (hW.mono (fun _ h => h.elim))).trans' h2 (fun j hj => (h.grow j hj).imp (fun h => h) (fun h => h.1)), fun k hk => ?_, h.old, h.tbn⟩
  rcases h3 k hk with h4 | h4
  · rcases h.grow k h4 with h5 | h5
    · exact .inl h5
    · exact .inr ⟨h5.1, by omega⟩
  · exact .inr ⟨by omega, h4.2⟩
def AgainOut (w : World) (cb : Nat) (most : Int) (L : List Ent) (O : Nat → Prop) (e : Ending) (w' : World) : Prop :=
  e = .returned (.tuple #[]) ∧ ∃ O', LruX w' cb most L O' ∧ Keeps O w w' ∧ Grow O O' w w'
variable {w w' : World} {db cb : Nat} {most : Int} {O T : Nat → Prop}
set_option maxHeartbeats 4000000 in
set_option maxRecDepth 100000 in
theorem again_any {ma : Option Addr} {mcap : Nat} {M L : List Ent} (hc : w.cell? ⟨db, 4, none⟩ = some (.pointer (some ⟨cb, 0, none⟩))) (hL : LruX w cb most L O) (hd : ¬ O db) (hM : EntRow w 32 ma mcap M) (hMn : ∀ g, blk ma = some g → ¬ O g)
    (hl : L.length ≤ 1000) (hlm : (L.length : Int) ≤ most) (hml : M.length ≤ 1000) (h1 : 1 ≤ most) :
    Calls Try.prog 62 #[.pointer (some ⟨db, 0, none⟩), .slice ma M.length mcap] w (AgainOut w cb most (markL M L) O) := by
  have hmk := @run_makeMap Try.prog
  have hM' := Lib.hid hM
  have hMn' := Lib.hid hMn
  have hL' := Lib.hid hL
  have hd' := Lib.hid hd
  have hc' := Lib.hid hc
  clear hM hMn hL hd hc
  go_enter Try.func62, Try.ntmps62
  go_wp2_with fail
  obtain ⟨tb, htb⟩ : ∃ tb : Nat, w.heap.size = tb := ⟨_, rfl⟩
  have hS := Lib.hid (show DirtyMap (w.alloc (.map #[] 0)) tb ([] : List Ent) ∧ Keeps Nil w (w.alloc (.map #[] 0)) from ⟨⟨[], by rw [← htb]; exact MapAt.made w, fun k => by simp [lhas, lget, mget]⟩, (Keeps.refl Nil w).alloc _⟩)
  have htb' := Lib.hid htb
  rw [htb]
  clear htb
  go_loopw [13, 6] (fun i _ wr => ∃ k : Nat, k ≤ M.length ∧ i = .int .i64 k ∧ DirtyMap wr tb (M.take k) ∧ Keeps Nil w wr) (fun i _ _ => M.length - (intOf i).toNat)
  case atStart => exact ⟨0, Nat.zero_le _, rfl, hS.out⟩
  case round =>
    obtain ⟨k, hk, rfl, hD, hK⟩ := hrel
    by_cases hlt : k < M.length
    · obtain ⟨g, rfl, hent⟩ := EntRow.at' (RowAt.keeps hM'.out hK (fun _ _ h => h)) hlt
      obtain ⟨x, hx⟩ : ∃ x, M.getD k ent0 = x := ⟨_, rfl⟩
      have htk := Lib.hid (take_snoc hlt)
      rw [hx] at hent htk
      clear hx
      have c0 : wr.cell? ⟨g, k * 3, none⟩ = some (.int .i64 x.key) := hent.key
      have c1 : wr.cell? ⟨g, k * 3 + 1, none⟩ = some (.int .u64 x.val) := hent.val
      have c2 : wr.cell? ⟨g, k * 3 + 2, none⟩ = some (.bool x.dirty) := hent.dirty
      obtain ⟨f, hm, hf⟩ := hD
      have hm' := Lib.hid (hm.keeps ((Keeps.refl Nil wr).alloc (.cells #[.int .i64 x.key, .int .u64 x.val, .bool x.dirty] 32)) (fun h => h))
      have hf' := Lib.hid hf
      have hK' := Lib.hid hK
      clear hm hf hK hent
      go_wp2_with (at_mapUpdate; refine wpList_upd _ rfl _ _ _ 128 rfl 3 4 Try.underlying128 Try.underlying3 tb _ rfl (by exact hm'.out) x.key rfl (.bool true) rfl ?_; intro w3 hm3 hk3 _; have hE := Lib.hid (show DirtyMap w3 tb (M.take (k + 1)) ∧ Keeps Nil w w3 from ⟨⟨_, hm3, by rw [htk.out]; exact dirty_snoc hf'.out⟩, (hK'.out.alloc _).trans' hk3 (fun j hj => .inr (by rw [hj, ← htb'.out]; exact Nat.le_refl _))⟩); clear hm3 hk3)
      go_roundw
      case rel => exact ⟨k + 1, by omega, by go_num, hE.out⟩
      case measure => simp [intOf]; omega
    · have e : M.take k = M := List.take_of_length_le (by omega)
      rw [e] at hD
      have hlr := hL'.out.nil hK
      have hA := Lib.hid (allX hlr (by omega))
      have cc := hK.cell hc'.out (fun h => h)
      have hD' := Lib.hid hD
      have hK' := Lib.hid hK
      clear hD hK hlr
      go_wp2_with fail
      refine (hA.out).mono ?_
      rintro e w2 ⟨v, rfl, a, cap, rfl, hrow, hk2, hge⟩
      have hrow' := Lib.hid hrow
      have hge' := Lib.hid hge
      have hI := Lib.hid (show AgainIn w2 w2 cb tb most M [] L O O from ⟨(hL'.out.nil hK'.out).nil hk2, hD'.out.keeps hk2 (fun h => h), Keeps.refl _ _, fun k hk => .inl hk, fun k hk => Nat.lt_of_lt_of_le (hL'.out.lt hk) (hK'.out.trans hk2).size, fun ho => by have := hL'.out.lt ho; rw [htb'.out] at this; omega, by obtain ⟨f, hm, _⟩ := hD'.out.keeps hk2 (fun h => h); exact hm.lt⟩)
      have hk2s := Lib.hid hk2.size
      have hk2' := Lib.hid hk2
      clear hrow hk2 hge
      go_wp2_with fail
      go_loopw [8, 9] (fun i _ wr => ∃ (A B : List Ent) (q : Int) (O' : Nat → Prop), L = B ++ A ∧ i = .int .i64 q ∧ q = (B.length : Int) - 1 ∧ AgainIn w2 wr cb tb most M A B O O') (fun i _ _ => (intOf i + 1).toNat)
      case atStart => exact ⟨[], L, _, O, by simp, rfl, rfl, hI.out⟩
      case round =>
        obtain ⟨A, B, q, O2, hLE, rfl, hq, hJ⟩ := hrel
        have hK2 := hJ.keep
        rcases snoc_cases B with rfl | ⟨B, x, rfl⟩
        · have hq1 : q < 0 := by simp at hq; omega
          have hq2 : decide (0 ≤ q) = false := decide_eq_false (by omega)
          clear hq
          have hJ' := Lib.hid hJ
          have hLE' := Lib.hid hLE
          clear hJ hK2 hLE
          go_wp2_with fail
          go_end0
          have e : L = A := by have := hLE'.out; simpa using this
          refine ⟨rfl, O2, by have := hJ'.out.lru; rw [List.append_nil, ← e] at this; exact this, ((hK'.out.trans hk2'.out).mono (fun _ h => h.elim)).trans hJ'.out.keep, fun k hk => ?_⟩
          have a1 := hK'.out.size
          have a2 := hk2s.out
          rcases hJ'.out.grow k hk with h | h
          · exact .inl h
          · exact .inr ⟨by omega, h.2⟩
        · have hq' : q = (B.length : Nat) := by simp at hq; omega
          subst hq'
          have hlb : B.length < L.length := by rw [hLE]; simp
          obtain ⟨g, hga, hent⟩ := EntRow.at' (hrow'.out.keeps hK2 (fun g hg ho => by have a1 := hge'.out g hg; have a2 := hL'.out.lt ho; have a3 := hK'.out.size; omega)) hlb
          have hgx : L.getD B.length ent0 = x := by rw [hLE]; simp
          rw [hgx] at hent
          subst hga
          have c0 : wr.cell? ⟨g, B.length * 3, none⟩ = some (.int .i64 x.key) := hent.key
          have c1 : wr.cell? ⟨g, B.length * 3 + 1, none⟩ = some (.int .u64 x.val) := hent.val
          have c2 : wr.cell? ⟨g, B.length * 3 + 2, none⟩ = some (.bool x.dirty) := hent.dirty
          have hst := again_step (most := most) (M := M) (A := A) (B := B) (x := x) (by have := hL'.out.nodup; rw [hLE] at this; simpa using this)
          have hlen3 : ((markL M A ++ (B ++ [x])).length : Int) ≤ most := by
            have : (markL M A ++ (B ++ [x])).length = L.length := by rw [hLE]; simp [markL]; omega
            rw [this]; exact hlm
          have hPut := Lib.hid (fun (W : World) (hW : Keeps Nil wr W) => putX' (hJ.lru.nil hW) ⟨x.key, x.val, x.dirty || lhas x.key M⟩ hlen3 h1)
          rw [hst] at hPut
          have hJ' := Lib.hid hJ
          have hLE' := Lib.hid hLE
          have hK2' := Lib.hid hK2
          have hbl : B.length ≤ 1000 := by omega
          have cdb := hJ.keep.cell ((hK'.out.trans hk2'.out).cell hc'.out (fun h => h)) hd'.out
          obtain ⟨f, hm, hf⟩ := hJ.map
          have hfx := hf x.key
          have hm' := Lib.hid hm
          clear hJ hLE hK2 hst hent hm hf hq hgx
          obtain ⟨d, hd⟩ : ∃ d, (x.dirty || lhas x.key M) = d := ⟨_, rfl⟩
          rw [hd] at hPut
          have hblt := lt_of_cell cdb
          have hng := fun k (hk : O2 k) => hJ'.out.lru.lt hk
          have hgw := Lib.hid (show w.heap.size ≤ w2.heap.size from Nat.le_trans hK'.out.size hk2s.out)
          have hnw := Lib.hid (show ¬ O2 wr.heap.size from fun h => by have := hng _ h; omega)
          have hnd := Lib.hid (show ¬ O2 db from fun h => (hJ'.out.grow db h).elim hd'.out (fun e => by have a1 := lt_of_cell hc'.out; have a2 := hgw.out; omega))
          have ndw : ¬ db = wr.heap.size := by omega
          cases hxd : x.dirty with
          | true =>
            rw [hxd] at c2 hd
            rw [Bool.true_or] at hd
            subst hd
            have hP2 := Lib.hid (hPut.out ((wr.alloc (.cells #[.int .i64 x.key, .int .u64 x.val, .bool true] 32)).drew) (((Keeps.refl Nil wr).alloc _).drew))
            have s1 := (Keeps.refl Nil wr).alloc (.cells #[.int .i64 x.key, .int .u64 x.val, .bool true] 32)
            have t0 := s1.cell cdb (fun h => h)
            have t1 : (wr.alloc (.cells #[.int .i64 x.key, .int .u64 x.val, .bool true] 32)).cell? ⟨wr.heap.size, 0, none⟩ = some (.int .i64 x.key) := by simp [go_sem]
            have t2 : (wr.alloc (.cells #[.int .i64 x.key, .int .u64 x.val, .bool true] 32)).cell? ⟨wr.heap.size, 1, none⟩ = some (.int .u64 x.val) := by simp [go_sem]
            have t3 : (wr.alloc (.cells #[.int .i64 x.key, .int .u64 x.val, .bool true] 32)).cell? ⟨wr.heap.size, 2, none⟩ = some (.bool true) := by simp [go_sem]
            have hT := Lib.hid (show ∀ W, Keeps O2 (wr.alloc (.cells #[.int .i64 x.key, .int .u64 x.val, .bool true] 32)).drew W → W.cell? ⟨db, 4, none⟩ = some (.pointer (some ⟨cb, 0, none⟩)) ∧ W.cell? ⟨wr.heap.size, 0, none⟩ = some (.int .i64 x.key) ∧ W.cell? ⟨wr.heap.size, 1, none⟩ = some (.int .u64 x.val) ∧ W.cell? ⟨wr.heap.size, 2, none⟩ = some (.bool true) from
              fun W hW => ⟨hW.cell t0 hnd.out, hW.cell t1 hnw.out, hW.cell t2 hnw.out, hW.cell t3 hnw.out⟩)
            clear s1 hPut hng
            go_wp2_with fail
            go_region_held3 (fun W => W.cell? ⟨db, 4, none⟩ = some (.pointer (some ⟨cb, 0, none⟩)) ∧ W.cell? ⟨wr.heap.size, 0, none⟩ = some (.int .i64 x.key) ∧ W.cell? ⟨wr.heap.size, 1, none⟩ = some (.int .u64 x.val) ∧ W.cell? ⟨wr.heap.size, 2, none⟩ = some (.bool true)) (first | exact ⟨t0, t1, t2, t3⟩ | exact hT.out _ (Keeps.refl _ _) | exact hT.out _ hk5'.out) ((go_at_call 15; refine (hP2.out).mono ?_; rintro e w5 ⟨rfl, O5, hL5, hk5, hg5⟩; have hk5' := Lib.hid hk5; clear hk5))
            obtain ⟨O6, hJ6⟩ := hJ'.out.next (((Keeps.refl Nil wr).alloc _).drew) ⟨O5, hL5, hk5'.out, hg5⟩
            have hJ6' := Lib.hid hJ6
            clear hL5 hg5 hJ6
            go_wp2_with fail
            go_roundw
            case rel => exact ⟨x :: A, B, _, O6, by rw [hLE'.out]; simp, by go_num, rfl, hJ6'.out⟩
            case measure => simp [intOf]
          | false =>
            rw [hxd] at c2 hd
            rw [Bool.false_or] at hd
            have hlk := run_look (P := Try.prog) Try.underlying128 Try.underlying3 (zero4 _) (hm'.out.keeps ((Keeps.refl Nil wr).alloc (.cells #[.int .i64 x.key, .int .u64 x.val, .bool false] 32)) (fun h => h)) x.key
            rw [hfx, hd, show (if d = true then some (Value.bool true) else none).getD (.bool false) = .bool d by cases d <;> rfl] at hlk
            clear hfx hd
            have hP2 := Lib.hid (hPut.out ((wr.alloc (.cells #[.int .i64 x.key, .int .u64 x.val, .bool d] 32)).drew) (((Keeps.refl Nil wr).alloc _).drew))
            have s1 := (Keeps.refl Nil wr).alloc (.cells #[.int .i64 x.key, .int .u64 x.val, .bool d] 32)
            have t0 := s1.cell cdb (fun h => h)
            have t1 : (wr.alloc (.cells #[.int .i64 x.key, .int .u64 x.val, .bool d] 32)).cell? ⟨wr.heap.size, 0, none⟩ = some (.int .i64 x.key) := by simp [go_sem]
            have t2 : (wr.alloc (.cells #[.int .i64 x.key, .int .u64 x.val, .bool d] 32)).cell? ⟨wr.heap.size, 1, none⟩ = some (.int .u64 x.val) := by simp [go_sem]
            have t3 : (wr.alloc (.cells #[.int .i64 x.key, .int .u64 x.val, .bool d] 32)).cell? ⟨wr.heap.size, 2, none⟩ = some (.bool d) := by simp [go_sem]
            have hT := Lib.hid (show ∀ W, Keeps O2 (wr.alloc (.cells #[.int .i64 x.key, .int .u64 x.val, .bool d] 32)).drew W → W.cell? ⟨db, 4, none⟩ = some (.pointer (some ⟨cb, 0, none⟩)) ∧ W.cell? ⟨wr.heap.size, 0, none⟩ = some (.int .i64 x.key) ∧ W.cell? ⟨wr.heap.size, 1, none⟩ = some (.int .u64 x.val) ∧ W.cell? ⟨wr.heap.size, 2, none⟩ = some (.bool d) from
              fun W hW => ⟨hW.cell t0 hnd.out, hW.cell t1 hnw.out, hW.cell t2 hnw.out, hW.cell t3 hnw.out⟩)
            clear s1 hPut hng
            go_wp2_with fail
            clear hlk
            go_region_held3 (fun W => W.cell? ⟨db, 4, none⟩ = some (.pointer (some ⟨cb, 0, none⟩)) ∧ W.cell? ⟨wr.heap.size, 0, none⟩ = some (.int .i64 x.key) ∧ W.cell? ⟨wr.heap.size, 1, none⟩ = some (.int .u64 x.val) ∧ W.cell? ⟨wr.heap.size, 2, none⟩ = some (.bool d)) (first | exact ⟨t0, t1, t2, t3⟩ | exact hT.out _ (Keeps.refl _ _) | exact hT.out _ hk5'.out) ((go_at_call 15; refine (hP2.out).mono ?_; rintro e w5 ⟨rfl, O5, hL5, hk5, hg5⟩; have hk5' := Lib.hid hk5; clear hk5))
            obtain ⟨O6, hJ6⟩ := hJ'.out.next (((Keeps.refl Nil wr).alloc _).drew) ⟨O5, hL5, hk5'.out, hg5⟩
            have hJ6' := Lib.hid hJ6
            clear hL5 hg5 hJ6
            go_wp2_with fail
            go_roundw
            case rel => exact ⟨x :: A, B, _, O6, by rw [hLE'.out]; simp, by go_num, rfl, hJ6'.out⟩
            case measure => simp [intOf]
end Go.Proofs.Ytnickcjkipemmaa
