/- the reference's cache: the walk of Clean -/
import Derived.Test.YtnickcjkipemmaaRefP
import Derived.Deep.CutBlock
import Derived.Deep.DeepCutAuto
namespace Go.Proofs.Ytnickcjkipemmaa
open Go.RowKit

attribute [local go_sem ↓] Go.wp_at_zero Go.wp_at_succ

theorem RecRow.setEnt {w : World} {E : TypeId} {g cap : Nat} {L : List Ent} (h : RecRow entC 3 w E (some ⟨g, 0, none⟩) cap L) {j : Nat} {x : Ent} (hx : L[j]? = some x) (y : Ent) :
    RecRow entC 3 (((w.setCell ⟨g, j * 3, none⟩ (.int .i64 y.key)).setCell ⟨g, j * 3 + 1, none⟩ (.int .u64 y.val)).setCell ⟨g, j * 3 + 2, none⟩ (.bool y.dirty)) E (some ⟨g, 0, none⟩) cap (L.set j y) := by
  have hj := (List.getElem?_eq_some_iff.1 hx).1
  have h1 := h.setField entC_l3 (j := j) (i := 0) (x := x) (y := ⟨y.key, x.val, x.dirty⟩) (v := .int .i64 y.key) (by decide) hx rfl
  have h2 := h1.setField entC_l3 (j := j) (i := 1) (x := ⟨y.key, x.val, x.dirty⟩) (y := ⟨y.key, y.val, x.dirty⟩) (v := .int .u64 y.val) (by decide) (by simp [hj]) rfl
  have h3 := h2.setField entC_l3 (j := j) (i := 2) (x := ⟨y.key, y.val, x.dirty⟩) (y := y) (v := .bool y.dirty) (by decide) (by simp [hj]) rfl
  rw [List.set_set, List.set_set] at h3
  exact h3
/-- the list when i are looked at -/
def halfL (lo hi : Int) (l : List Ent) (i : Nat) : List Ent := lclr lo hi (l.take i) ++ l.drop i
theorem halfL_len (lo hi : Int) (l : List Ent) (i : Nat) : (halfL lo hi l i).length = l.length := by
  unfold halfL lclr; simp; omega
theorem halfL_get {lo hi : Int} {l : List Ent} {i : Nat} {x : Ent} (h : l[i]? = some x) : (halfL lo hi l i)[i]? = some x := by
  have hi' := (List.getElem?_eq_some_iff.1 h).1
  unfold halfL lclr
  rw [List.getElem?_append_right (by simp; omega)]
  simp only [List.length_map, List.length_take, Nat.min_eq_left (Nat.le_of_lt hi'), Nat.sub_self, List.getElem?_drop, Nat.add_zero]
  exact h
theorem halfL_step {lo hi : Int} {l : List Ent} {i : Nat} {x : Ent} (h : l[i]? = some x) : (halfL lo hi l i).set i (clrE lo hi x) = halfL lo hi l (i + 1) := by
  obtain ⟨hi', hx⟩ := List.getElem?_eq_some_iff.1 h
  unfold halfL lclr
  rw [List.set_append_right _ _ (by simp; omega)]
  simp only [List.length_map, List.length_take, Nat.min_eq_left (Nat.le_of_lt hi'), Nat.sub_self]
  rw [List.drop_eq_getElem_cons hi', List.set_cons_zero, List.take_succ_eq_append_getElem hi', List.map_append, List.append_assoc, hx]
  rfl
theorem halfL_same {lo hi : Int} {l : List Ent} {i : Nat} {x : Ent} (h : l[i]? = some x) (hn : inR lo hi x = false) : halfL lo hi l i = halfL lo hi l (i + 1) := by
  rw [← halfL_step h]
  have e : clrE lo hi x = x := by unfold clrE; rw [hn]; rfl
  rw [e]
  apply List.ext_getElem?
  intro q
  rw [List.getElem?_set]
  split
  · rename_i hq
    subst hq
    have := halfL_get (lo := lo) (hi := hi) h
    rw [if_pos (by rw [halfL_len]; exact (List.getElem?_eq_some_iff.1 h).1), this]
  · rfl
theorem hole_get {M : List Ent} {k : Nat} {y : Ent} (hk : k < M.length) : (M.take (k + 1) ++ y :: M.drop (k + 1))[k]? = some M[k] := by
  rw [List.getElem?_append_left (by simp; omega), List.getElem?_take, if_pos (by omega), List.getElem?_eq_getElem hk]
theorem hole_at {M : List Ent} {k : Nat} {y : Ent} (hk : k ≤ M.length) : (M.take k ++ y :: M.drop k)[k]? = some y := by
  rw [List.getElem?_append_right (by simp; omega)]
  simp [Nat.min_eq_left hk]
theorem hole_set {M : List Ent} {k : Nat} {y z : Ent} (hk : k ≤ M.length) : (M.take k ++ y :: M.drop k).set k z = M.take k ++ z :: M.drop k := by
  rw [List.set_append_right _ _ (by simp; omega)]
  simp [Nat.min_eq_left hk]
theorem hole_down {M : List Ent} {k : Nat} (hk : k < M.length) : M.take (k + 1) ++ M[k] :: M.drop (k + 1) = M.take k ++ M[k] :: M.drop k := by
  rw [List.take_succ_eq_append_getElem hk, List.append_assoc, List.drop_eq_getElem_cons hk]
  rfl
theorem hole_len {M : List Ent} {k : Nat} {y : Ent} (hk : k ≤ M.length) : (M.take k ++ y :: M.drop k).length = M.length + 1 := by simp; omega

def RClean (w : World) (rb : Nat) (most lo hi : Int) (l : List Ent) (R : Nat → Prop) (e : Ending) (w' : World) : Prop :=
  ∃ M oa ocap, e = .returned (.slice oa M.length ocap) ∧ CleanR lo hi l M ∧ EntRow w' 54 oa ocap M ∧ (∀ g, blk oa = some g → w.heap.size ≤ g) ∧ RefX w' rb most (lclr lo hi l) R ∧ Keeps R w w'

set_option maxHeartbeats 16000000 in
set_option maxRecDepth 100000 in
theorem rclean_any {w : World} {rb cap : Nat} {most : Int} {a : Option Addr} {l : List Ent} (h : RefB w rb most a cap l) (lo hi : Int) (hnd : (l.map (·.key)).Nodup) (hlen : l.length ≤ 1000000) :
    Calls Try.prog 25 #[.pointer (some ⟨rb, 0, none⟩), .int .i64 lo, .int .i64 hi] w (RClean w rb most lo hi l (rown rb a)) := by
  obtain ⟨i54, hi5, hz0, hz1, hz2⟩ := info_parts info54
  have h' := Lib.hid h
  have hnd' := Lib.hid hnd
  have hrlt := Lib.hid (show ∀ k, rown rb a k → k < w.heap.size from fun k hk => hk.elim (fun e => e ▸ lt_of_heap h.head) (fun e => RowAt.lt h.row e))
  obtain ⟨m, hm⟩ : ∃ m, l.length = m := ⟨_, rfl⟩
  have hm' := Lib.hid hm
  have hlen' := Lib.hid (show m ≤ 1000000 by omega)
  clear h hnd hm hlen
  go_enter Try.func25, Try.ntmps25
  go_wp2_with fail
  go_loopw [7, 8, 9, 10] (fun v7 c _ _ wx => ∃ (i : Nat) (M : List Ent) (oa : Option Addr) (oc n : Nat), i ≤ m ∧ c = .int .i64 i ∧ v7 = .slice oa n oc ∧ M.length = n ∧ RecRow entC 3 wx 54 oa oc M ∧ CleanR lo hi (l.take i) M ∧ (∀ g, blk oa = some g → w.heap.size ≤ g) ∧ RefB wx rb most a cap (halfL lo hi l i) ∧ Keeps (rown rb a) w wx) (fun _ c _ _ _ => m - (intOf c).toNat)
  case atStart => exact ⟨0, [], none, 0, 0, Nat.zero_le _, rfl, rfl, rfl, RecRow.nil _ _, ⟨List.Perm.refl _, List.Pairwise.nil⟩, (fun g hg => by cases hg), h'.out, Keeps.refl _ _⟩
  case round =>
    obtain ⟨w1, rfl⟩ : ∃ w1 : World, w1 = wr := ⟨_, rfl⟩
    obtain ⟨i, M, oa, oc, n, hi', rfl, rfl, hMn, hM, hC, hof, hB, hK⟩ := hrel
    have hMn' := Lib.hid hMn
    have hm6 : m ≤ 1000000 := hlen'.out
    have hM' := Lib.hid hM
    have hC' := Lib.hid hC
    have hof' := Lib.hid hof
    have hB' := Lib.hid hB
    have hK' := Lib.hid hK
    have m1 := cell_of_heap hB.head 1
    simp at m1
    rw [halfL_len, hm'.out] at m1
    by_cases hlt : i < m
    · obtain ⟨x, hx⟩ : ∃ x, l[i]? = some x := ⟨l[i]'(by rw [hm'.out]; exact hlt), List.getElem?_eq_getElem _⟩
      obtain ⟨g, hga, hgl, hgf, hgc⟩ := hB.row.cell entC_l3 (halfL_get (lo := lo) (hi := hi) hx)
      have c0 := hgc 0 _ (by decide) rfl
      have c1 := hgc 1 _ (by decide) rfl
      have c2 := hgc 2 _ (by decide) rfl
      rw [Nat.add_zero] at c0
      have htake : l.take (i + 1) = l.take i ++ [x] := by
        obtain ⟨hi2, e⟩ := List.getElem?_eq_some_iff.1 hx
        rw [List.take_succ_eq_append_getElem hi2, e]
      have htake' := Lib.hid htake
      have hx' := Lib.hid hx
      have hnx := Lib.hid (show ∀ z ∈ l.take i, z.key ≠ x.key from fun z hz e => by
        have h1 := hnd'.out
        have hsub : ((l.take (i + 1)).map (·.key)).Nodup := h1.sublist ((List.take_sublist _ _).map _)
        rw [htake, List.map_append, List.nodup_append] at hsub
        exact hsub.2.2 z.key (List.mem_map.2 ⟨z, hz, rfl⟩) x.key (by simp) e)
      obtain ⟨kx, vx, dx⟩ := x
      simp only at c0 c1 c2 hnx
      have hIn : inR lo hi ⟨kx, vx, dx⟩ = (dx && decide (lo ≤ kx) && decide (kx < hi)) := rfl
      have hIn' := Lib.hid hIn
      have hae := hga
      subst hga
      have g1 : (0 : Int) ≤ (i : Int) := by omega
      have g2 : (i : Int) < (m : Int) := by omega
      have hgf' := Lib.hid hgf
      clear hM hC hof hB hK hgc hgf hx htake hIn hMn
      by_cases hin : inR lo hi ⟨kx, vx, dx⟩ = true
      · have hin2 := hin
        rw [hIn'.out] at hin2
        simp only [Bool.and_eq_true, decide_eq_true_eq] at hin2
        obtain ⟨⟨rfl, hlo⟩, hhi⟩ := hin2
        have hin' := Lib.hid hin
        have d1 : decide (kx < lo) = false := decide_eq_false (by omega)
        have d2 : decide (hi ≤ kx) = false := decide_eq_false (by omega)
        have hml := Lib.hid (show n + 1 ≤ maxLen by have h1 := hC'.out.1.length_eq; have h2 := List.length_filter_le (inR lo hi) (l.take i); unfold lpick at h1; have h3 := hMn'.out; have h4 := hm'.out; have h5 := hlen'.out; simp at h2; unfold maxLen; omega)
        have hmb := Lib.hid (show (n + 1) * 24 ≤ 140737488355328 by have := hml.out; have h1 := hC'.out.1.length_eq; have h2 := List.length_filter_le (inR lo hi) (l.take i); unfold lpick at h1; have h3 := hMn'.out; have h4 := hm'.out; have h5 := hlen'.out; simp at h2; omega)
        have hrow := Lib.hid (show RowAt w1 54 3 oa n oc (recs entC M) by have := hM'.out; unfold RecRow at this; rwa [hMn'.out] at this)
        have hE := Lib.hid (heap_alloc_new w1 (.cells #[.int .i64 kx, .int .u64 vx, .bool true] 54))
        have hS2 := Lib.hid (show RowAt ((w1.alloc (.cells #[.int .i64 kx, .int .u64 vx, .bool true] 54)).alloc (.cells #[.int .i64 kx, .int .u64 vx, .bool true] 54)) 54 3 (some ⟨w1.heap.size + 1, 0, none⟩) 1 1 [.int .i64 kx, .int .u64 vx, .bool true] from by
          have := row_one (x := ⟨kx, vx, true⟩) (heap_alloc_new (w1.alloc (.cells #[.int .i64 kx, .int .u64 vx, .bool true] 54)) (.cells #[.int .i64 kx, .int .u64 vx, .bool true] 54))
          rwa [heap_alloc_size'] at this)
        clear hin hlo hhi hIn'
        go_upto_block 2 with (at_builtin; refine wpList_app _ rfl (.tmp 44) (.tmp 46) 51 rfl 54 i54 _ 3 24 Try.underlying51 hi5 hz0 hz1 hz2 rfl (by decide) oa n oc (recs entC M) rfl (some ⟨w1.heap.size + 1, 0, none⟩) 1 1 [.int .i64 kx, .int .u64 vx, .bool true] rfl ?_ (by exact hrow.out.keeps (((Keeps.refl Nil w1).alloc _).alloc _) (fun _ _ h => h)) (by exact RowAt.src hS2.out) (fun h => by cases h) (by simp [Value.oneCell']) hml.out hmb.out; intro oa5 oc5 w5 hr5 hk5 hn5; have k5 := (((Keeps.refl (fun j => blk oa = some j) w1).alloc (.cells #[.int .i64 kx, .int .u64 vx, .bool true] 54)).alloc (.cells #[.int .i64 kx, .int .u64 vx, .bool true] 54)).trans hk5; have hE5 := hk5.heap (heap_alloc_old (o' := .cells #[.int .i64 kx, .int .u64 vx, .bool true] 54) hE.out) (fun e => by have := RowAt.lt hM'.out e; omega); have hr5' := Lib.hid hr5; have k5' := Lib.hid k5; have hn5' := Lib.hid hn5; have hE5' := Lib.hid hE5; clear hr5 hk5 hn5 k5 hE5 m1 c0 c1 c2)
        have hR5 : RecRow entC 3 w5 54 oa5 oc5 (M ++ [⟨kx, vx, true⟩]) := by
          unfold RecRow
          rw [recs_app, recs_one, List.length_append, hMn'.out]
          exact hr5'.out
        obtain ⟨og, hog, hogl⟩ := hR5.at (by simp)
        have hogw : w.heap.size ≤ og ∧ og ≠ w1.heap.size := by
          have hk1 := hK'.out.size
          rcases hn5'.out with e | ⟨e, _⟩
          · rw [hog] at e
            have e2 : blk oa = some og := e.symm
            have h1 := RowAt.lt hM'.out e2
            exact ⟨hof'.out og e2, by omega⟩
          · rw [hog] at e
            have : og = w1.heap.size + 1 + 1 := by simpa [blk] using e
            exact ⟨by omega, by omega⟩
        subst hog
        have hogw' := Lib.hid hogw
        have hR5' := Lib.hid hR5
        have hkM := Lib.hid (show ∀ z ∈ M, z.key ≠ kx from fun z hz => hnx.out z (List.mem_filter.1 (hC'.out.1.mem_iff.1 hz)).1)
        clear hR5 hr5' hogw
        go_cut [10] (fun c wx => ∃ k : Nat, c = .int .i64 k ∧ k ≤ n ∧ (∃ y, RecRow entC 3 wx 54 (some ⟨og, 0, none⟩) oc5 (M.take k ++ y :: M.drop k)) ∧ M.take k ++ ⟨kx, vx, true⟩ :: M.drop k = insE ⟨kx, vx, true⟩ M ∧ Keeps (· = og) w5 wx)
        case first =>
          go_wp2_with fail
          go_loopw [10] (fun c wx => ∃ (k : Nat) (y : Ent), k ≤ n ∧ c = .int .i64 k ∧ RecRow entC 3 wx 54 (some ⟨og, 0, none⟩) oc5 (M.take k ++ y :: M.drop k) ∧ (∀ j (h : j < M.length), k ≤ j → kx < M[j].key) ∧ Keeps (· = og) w5 wx) (fun c _ => (intOf c).toNat)
          case atStart => exact ⟨n, ⟨kx, vx, true⟩, Nat.le_refl _, rfl, by rw [← hMn'.out, List.take_length, List.drop_length]; exact hR5'.out, fun j h hj => by have := hMn'.out; omega, Keeps.refl _ _⟩
          case round =>
            obtain ⟨w6, rfl⟩ : ∃ w6 : World, w6 = wr := ⟨_, rfl⟩
            obtain ⟨k, y, hk, rfl, hR6, hup, hk6⟩ := hrel
            have hR6' := Lib.hid hR6
            have hup' := Lib.hid hup
            have hk6' := Lib.hid hk6
            have e0 := cell_of_heap (hk6.heap hE5'.out (fun e => hogw'.out.2 e.symm)) 0
            simp at e0
            rcases Nat.eq_zero_or_pos k with hk0 | hk0
            · subst hk0
              have hins := Lib.hid (insE_at (e := ⟨kx, vx, true⟩) hC'.out.2 (Nat.zero_le _) hup (fun h => by omega))
              clear hR6 hup hk6
              go_wp2_with fail
              go_quiet (fail)
              go_wp2_with fail
              go_meet
              exact ⟨0, rfl, Nat.zero_le _, ⟨y, hR6'.out.keeps ((Keeps.refl Nil w6).drewN _) (fun _ _ h => h)⟩, hins.out, hk6'.out.drewN _⟩
            · obtain ⟨k1, hk1⟩ : ∃ k1, k = k1 + 1 := ⟨k - 1, by omega⟩
              have hk1M : k1 < M.length := by have := hMn'.out; omega
              have hkM2 : k ≤ M.length := by have := hMn'.out; omega
              obtain ⟨z, hz⟩ : ∃ z, M[k1] = z := ⟨_, rfl⟩
              have hget : (M.take k ++ y :: M.drop k)[k1]? = some z := by rw [hk1, hole_get hk1M, hz]
              obtain ⟨og', hog', hogl', hogf, hogc⟩ := hR6.cell entC_l3 hget
              cases hog'
              obtain ⟨og', hog', _, _, hogy⟩ := hR6.cell entC_l3 (hole_at (y := y) hkM2)
              cases hog'
              have z0 := hogc 0 _ (by decide) rfl
              have z1 := hogc 1 _ (by decide) rfl
              have z2 := hogc 2 _ (by decide) rfl
              have y0 := hogy 0 _ (by decide) rfl
              have y1 := hogy 1 _ (by decide) rfl
              have y2 := hogy 2 _ (by decide) rfl
              simp only [Nat.add_zero] at z0 y0
              have of0 := hogf (k * 3)
              have of1 := hogf (k * 3 + 1)
              have of2 := hogf (k * 3 + 2)
              have hzk := hkM.out z (hz ▸ List.getElem_mem hk1M)
              obtain ⟨kz, vz, dz⟩ := z
              simp only at z0 z1 z2 hzk
              have d3 : decide ((0 : Int) < (k : Int)) = true := decide_eq_true (by omega)
              have d3' : decide (0 < k) = true := decide_eq_true (by omega)
              have x1 : IntKind.i64.wrap ((k : Int) - 1) = (k1 : Int) := by rw [IntKind.wrap_i64]; have := hlen'.out; have := hmb.out; omega
              have q1 : (0 : Int) ≤ (k1 : Int) := by omega
              have q2 : (k1 : Int) < (n : Int) + 1 := by omega
              have q2' : k1 < n + 1 := by omega
              have q3 : (0 : Int) ≤ (k : Int) := by omega
              have q4 : (k : Int) < (n : Int) + 1 := by omega
              have q4' : k < n + 1 := by omega
              have hk1' := Lib.hid hk1
              have hz' := Lib.hid (show M[k1]? = some ⟨kz, vz, dz⟩ from by rw [List.getElem?_eq_getElem hk1M, hz])
              by_cases hgt : kx < kz
              · have d4 := decide_eq_true hgt
                have hgt' := Lib.hid hgt
                clear hR6 hup hk6 hget hogc hogy hogf hk1 hz hgt hk0 hzk hkM2 hk1M
                go_wp2_with fail
                go_quiet (fail)
                clear x1
                have x1 : wrap64 ((k : Int) - 1) = (k1 : Int) := by have := hmb.out; have := hk1'.out; unfold wrap64; omega
                go_wp2_with fail
                go_roundw
                case rel =>
                  have h1 := hk1'.out
                  have hMl := hMn'.out
                  have hk1M : k1 < M.length := by omega
                  have hst := hR6'.out.setEnt (hole_at (y := y) (by omega)) ⟨kz, vz, dz⟩
                  rw [hole_set (by omega)] at hst
                  have hz2 : M[k1]'hk1M = ⟨kz, vz, dz⟩ := by
                    have := hz'.out
                    rw [List.getElem?_eq_getElem hk1M] at this
                    exact Option.some.inj this
                  have e3 : M.take k ++ (⟨kz, vz, dz⟩ : Ent) :: M.drop k = M.take k1 ++ (⟨kz, vz, dz⟩ : Ent) :: M.drop k1 := by
                    rw [h1, ← hz2]; exact hole_down hk1M
                  rw [e3] at hst
                  refine ⟨k1, ⟨kz, vz, dz⟩, by omega, by first | rfl | go_num, by first | exact hst | exact hst.keeps ((Keeps.refl Nil _).drewN _) (fun _ _ h => h), fun j h hj => ?_, ?_⟩
                  · by_cases hjk : j = k1
                    · subst hjk
                      rw [hz2]; exact hgt'.out
                    · exact hup'.out j h (by omega)
                  · repeat (first | exact hk6'.out | with_reducible refine Keeps.drewN ?_ _ | with_reducible refine Keeps.drew ?_ | refine Keeps.setCell (p := ⟨_, _, none⟩) ?_ (.inl (by rfl)) _)
                case measure => have := hk1'.out; simp [intOf]; omega
              · have d4 := decide_eq_false hgt
                have hins := Lib.hid (insE_at (e := ⟨kx, vx, true⟩) hC'.out.2 hkM2 hup (fun h h2 => by
                  have e4 : M[k - 1] = ⟨kz, vz, dz⟩ := by rw [← hz]; congr 1; omega
                  rw [e4]; simp only; omega))
                clear hR6 hup hk6 hget hogc hogy hogf hk1 hz hgt hk0 hzk hkM2 hk1M
                go_wp2_with fail
                go_quiet (fail)
                clear x1
                go_wp2_with fail
                go_meet
                exact ⟨k, rfl, hk, ⟨y, hR6'.out.keeps ((Keeps.refl Nil w6).drewN _) (fun _ _ h => h)⟩, hins.out, hk6'.out.drewN _⟩
        case rest =>
          obtain ⟨w6, rfl⟩ : ∃ w6 : World, w6 = wc := ⟨_, rfl⟩
          obtain ⟨k, rfl, hk, ⟨y, hR6⟩, hins, hk6⟩ := hcut
          have hkM2 : k ≤ M.length := by have := hMn'.out; omega
          obtain ⟨og', hog', hogl6, hogf, hogy⟩ := hR6.cell entC_l3 (hole_at (y := y) hkM2)
          cases hog'
          have y0 := hogy 0 _ (by decide) rfl
          have y1 := hogy 1 _ (by decide) rfl
          have y2 := hogy 2 _ (by decide) rfl
          simp only [Nat.add_zero] at y0
          have of0 := hogf (k * 3)
          have of1 := hogf (k * 3 + 1)
          have of2 := hogf (k * 3 + 2)
          have he6 := hk6.heap hE5'.out (fun e => hogw'.out.2 e.symm)
          have e0 := cell_of_heap he6 0
          have e1 := cell_of_heap he6 1
          have e2 := cell_of_heap he6 2
          simp at e0 e1 e2
          have hno : ∀ q, rown rb (some ⟨g, 0, none⟩) q → q ≠ og := fun q hq e => by have := hrlt.out q hq; have := hogw'.out.1; omega
          have hB6 := (hB'.out.keeps k5'.out (fun q hq e => by have := hrlt.out q hq; have := hof'.out q e; omega)).keeps hk6 (fun q hq e => hno q hq e)
          have m1 := cell_of_heap hB6.head 1
          simp at m1
          rw [halfL_len, hm'.out] at m1
          obtain ⟨g', hg', hgl6, hgf6, hgc6⟩ := hB6.row.cell entC_l3 (halfL_get (lo := lo) (hi := hi) hx'.out)
          cases hg'
          have r2 := hgc6 2 _ (by decide) rfl
          have rf2 := hgf6 (i * 3 + 2)
          have hrl6 := lt_of_heap hB6.head
          have n1 : g ≠ og := hno g (.inr rfl)
          have n2 : rb ≠ og := hno rb (.inl rfl)
          have n3 : g ≠ rb := fun e => hB6.apart (by rw [e]; rfl)
          have q3 : (0 : Int) ≤ (k : Int) := by omega
          have q4 : (k : Int) < (n : Int) + 1 := by omega
          have q4' : k < n + 1 := by omega
          have hR6' := Lib.hid hR6
          have hins' := Lib.hid hins
          have hk6' := Lib.hid hk6
          have hB6' := Lib.hid hB6
          have hkM2' := Lib.hid hkM2
          have n1' := Lib.hid n1
          have n2' := Lib.hid n2
          have n3' := Lib.hid n3
          clear hogf hogy he6 hno hB6 hgf6 hgc6 hR6 hins hk6 hkM2
          go_wp2_with fail
          go_roundw
          case rel =>
            have hst := hR6'.out.setEnt (hole_at (y := y) hkM2'.out) ⟨kx, vx, true⟩
            rw [hole_set hkM2'.out, hins'.out] at hst
            have kE : Keeps (· = og) w6 (((w6.setCell ⟨og, k * 3, none⟩ (.int .i64 kx)).setCell ⟨og, k * 3 + 1, none⟩ (.int .u64 vx)).setCell ⟨og, k * 3 + 2, none⟩ (.bool true)) := (((Keeps.refl (· = og) w6).setCell (.inl rfl) _).setCell (.inl rfl) _).setCell (.inl rfl) _
            have hB7 := hB6'.out.keeps kE (fun q hq e => by
              rcases hq with h1 | h1
              · exact n2'.out (h1 ▸ e)
              · have : g = q := by simpa [blk] using h1
                exact n1'.out (by omega))
            have kG : Keeps (· = g) (((w6.setCell ⟨og, k * 3, none⟩ (.int .i64 kx)).setCell ⟨og, k * 3 + 1, none⟩ (.int .u64 vx)).setCell ⟨og, k * 3 + 2, none⟩ (.bool true)) ((((w6.setCell ⟨og, k * 3, none⟩ (.int .i64 kx)).setCell ⟨og, k * 3 + 1, none⟩ (.int .u64 vx)).setCell ⟨og, k * 3 + 2, none⟩ (.bool true)).setCell ⟨g, i * 3 + 2, none⟩ (.bool false)) := (Keeps.refl (· = g) _).setCell (.inl rfl) _
            have hrow7 := hB7.row.setField entC_l3 (j := i) (i := 2) (y := ⟨kx, vx, false⟩) (v := .bool false) (by decide) (halfL_get (lo := lo) (hi := hi) hx'.out) rfl
            have eclr : clrE lo hi ⟨kx, vx, true⟩ = ⟨kx, vx, false⟩ := by unfold clrE; rw [if_pos hin'.out]
            have hst2 := halfL_step (lo := lo) (hi := hi) hx'.out
            rw [eclr] at hst2
            rw [hst2] at hrow7
            have hCn := clean_next hC'.out hin'.out hnx.out
            rw [← htake'.out] at hCn
            have hB8 : RefB ((((w6.setCell ⟨og, k * 3, none⟩ (.int .i64 kx)).setCell ⟨og, k * 3 + 1, none⟩ (.int .u64 vx)).setCell ⟨og, k * 3 + 2, none⟩ (.bool true)).setCell ⟨g, i * 3 + 2, none⟩ (.bool false)) rb most (some ⟨g, 0, none⟩) cap (halfL lo hi l (i + 1)) := ⟨by have := kG.heap hB7.head (fun e => n3'.out e.symm); rw [halfL_len] at this ⊢; exact this, hrow7, hB7.apart⟩
            have kA := (((hK'.out.trans' k5'.out (fun q hq => .inr (hof'.out q hq))).trans' hk6'.out (fun q hq => .inr (by have := hogw'.out.1; omega))).trans' kE (fun q hq => .inr (by have := hogw'.out.1; omega))).trans' kG (fun q hq => .inl (.inr (by rw [hq]; rfl)))
            exact ⟨i + 1, insE ⟨kx, vx, true⟩ M, some ⟨og, 0, none⟩, oc5, n + 1, by omega, by go_num, rfl, by rw [(insE_perm _ M).length_eq, List.length_cons, hMn'.out], RecRow.keeps hst kG (fun q hq e => by
              have : og = q := by simpa [blk] using hq
              exact n1'.out (by omega)), hCn, (fun q hq => by
              have : og = q := by simpa [blk] using hq
              have := hogw'.out.1; omega), hB8, kA⟩
          case measure => simp [intOf]; omega
      · have hin2 : inR lo hi ⟨kx, vx, dx⟩ = false := by simpa using hin
        have hsame := Lib.hid (halfL_same hx'.out hin2)
        have hCs := Lib.hid (clean_same hC'.out hin2)
        rw [hIn'.out] at hin2
        have hcase : dx = false ∨ (dx = true ∧ kx < lo) ∨ (dx = true ∧ ¬ kx < lo ∧ hi ≤ kx) := by
          cases dx
          · exact .inl rfl
          · right
            simp at hin2
            by_cases h1 : kx < lo
            · exact .inl ⟨rfl, h1⟩
            · exact .inr ⟨rfl, h1, hin2 (by omega)⟩
        clear hin hin2 hIn'
        rcases hcase with rfl | ⟨rfl, h1⟩ | ⟨rfl, h1, h2⟩
        · go_wp2_with fail
          go_roundw
          case rel => exact ⟨i + 1, M, oa, oc, n, by omega, by go_num, rfl, hMn'.out, hM'.out.keeps ((Keeps.refl Nil w1).alloc _) (fun _ _ h => h), by rw [htake'.out]; exact hCs.out, hof'.out, by rw [← hsame.out]; exact hB'.out.keeps ((Keeps.refl Nil w1).alloc _) (fun _ _ h => h), hK'.out.alloc _⟩
          case measure => simp [intOf]; omega
        · have d1 := decide_eq_true h1
          clear h1
          go_wp2_with fail
          go_roundw
          case rel => exact ⟨i + 1, M, oa, oc, n, by omega, by go_num, rfl, hMn'.out, hM'.out.keeps ((Keeps.refl Nil w1).alloc _) (fun _ _ h => h), by rw [htake'.out]; exact hCs.out, hof'.out, by rw [← hsame.out]; exact hB'.out.keeps ((Keeps.refl Nil w1).alloc _) (fun _ _ h => h), hK'.out.alloc _⟩
          case measure => simp [intOf]; omega
        · have d1 := decide_eq_false h1
          have d2 := decide_eq_true h2
          clear h1 h2
          go_wp2_with fail
          go_roundw
          case rel => exact ⟨i + 1, M, oa, oc, n, by omega, by go_num, rfl, hMn'.out, hM'.out.keeps ((Keeps.refl Nil w1).alloc _) (fun _ _ h => h), by rw [htake'.out]; exact hCs.out, hof'.out, by rw [← hsame.out]; exact hB'.out.keeps ((Keeps.refl Nil w1).alloc _) (fun _ _ h => h), hK'.out.alloc _⟩
          case measure => simp [intOf]; omega
    · obtain rfl : i = m := by omega
      have htk : l.take i = l := List.take_of_length_le (by rw [hm'.out]; exact Nat.le_refl _)
      have hhf : halfL lo hi l i = lclr lo hi l := by unfold halfL; rw [htk, List.drop_eq_nil_of_le (by rw [hm'.out]; exact Nat.le_refl _), List.append_nil]
      rw [htk] at hC
      rw [hhf] at hB
      have hCf := Lib.hid hC
      have hBf := Lib.hid hB
      clear hM hC hof hB hK hMn htk hhf
      go_wp2_with fail
      go_ret
      exact ⟨M, oa, oc, by rw [hMn'.out]; rfl, hCf.out, hM'.out, hof'.out, ⟨a, cap, hBf.out, rfl⟩, hK'.out⟩
end Go.Proofs.Ytnickcjkipemmaa
