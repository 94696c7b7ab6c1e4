/- nand: filled -/
import Derived.Test.YtglpacdenfoicaaNeS
namespace Go.Proofs.Ytglpacdenfoicaa
open Go.RowKit

/-- byte i of a row that is filled by b -/
def filB (b : List Int) (i : Nat) : Int := if b.length = 0 then ((i : Int) * 7) % 256 else (gi b (i % b.length) + ((i / b.length : Nat) : Int)) % 256
def filL (b : List Int) (n : Nat) : List Int := (List.range n).map (filB b)
theorem filL_len (b : List Int) (n : Nat) : (filL b n).length = n := by simp [filL]
theorem filL_succ (b : List Int) (n : Nat) : filL b (n + 1) = filL b n ++ [filB b n] := by simp [filL, List.range_succ]
theorem divmod_nat (i n : Nat) (hn : 0 < n) : ((i : Int)).tmod (n : Int) = ((i % n : Nat) : Int) ∧ ((i : Int)).tdiv (n : Int) = ((i / n : Nat) : Int) ∧ (i : Int) % (n : Int) = ((i % n : Nat) : Int) ∧ (i : Int) / (n : Int) = ((i / n : Nat) : Int) := by
  refine ⟨?_, ?_, rfl, rfl⟩
  · rw [Int.tmod_eq_emod_of_nonneg (by omega)]; rfl
  · rw [Int.tdiv_eq_ediv_of_nonneg (by omega)]; rfl
theorem fill_step {w wr wx w5 : World} {b : List Int} {k c' cap5 : Nat} {a' a5 : Option Addr} {v : Int} (h : NumRow .u8 wr 5 a' c' (filL b k) ∧ Keeps Nil w wr ∧ ∀ g, blk a' = some g → w.heap.size ≤ g) (hv : filB b k = v) (hx : Keeps Nil wr wx)
    (hr5 : RowAt w5 5 1 a5 (k + 1) cap5 ((filL b k).map (Value.int .u8) ++ [Value.int .u8 v])) (hk5 : Keeps (fun j => blk a' = some j) wx w5) (hb5 : blk a5 = blk a' ∨ blk a5 = some wx.heap.size ∧ wx.heap.size < w5.heap.size) :
    NumRow .u8 w5 5 a5 cap5 (filL b (k + 1)) ∧ Keeps Nil w w5 ∧ ∀ g, blk a5 = some g → w.heap.size ≤ g := by
  obtain ⟨h1, h2, h3⟩ := h
  refine ⟨?_, (h2.trans hx).trans' hk5 (fun j hj => .inr (h3 j hj)), ?_⟩
  · unfold NumRow
    rw [filL_succ, List.map_append, List.length_append, filL_len, List.map_cons, List.map_nil, hv]
    exact hr5
  · intro g hg
    rcases hb5 with h | ⟨h, _⟩
    · exact h3 g (h ▸ hg)
    · rw [h] at hg; cases hg
      exact Nat.le_trans h2.size hx.size
set_option maxHeartbeats 4000000 in
set_option maxRecDepth 100000 in
theorem filled17 {w : World} {xa : Option Addr} {xc m : Nat} {b : List Int} (n : Nat) (hn : n ≤ 1000000) (hx : NumsAt .u8 w xa b) (hb : b.length = m) (_ : m ≤ 140737488351232) :
    Calls Try.prog 17 #[.slice xa m xc, .int .i64 (n : Nat)] w fun e w' => ∃ a' c', e = .returned (.slice a' n c') ∧ NumRow .u8 w' 5 a' c' (filL b n) ∧ Keeps Nil w w' ∧ ∀ g, blk a' = some g → w.heap.size ≤ g := by
  obtain ⟨i5, hi, hz0, hz1, hz2⟩ := info_parts Try.info5n
  have hx' := Lib.hid hx
  have hb' := Lib.hid hb
  clear hx hb
  go_enter Try.func17, Try.ntmps17
  go_wp2_with fail
  go_loopw [5, 6] (fun o i wr => ∃ k : Nat, ∃ a' : Option Addr, ∃ c' : Nat, k ≤ n ∧ i = .int .i64 k ∧ o = .slice a' k c' ∧ Hid (NumRow .u8 wr 5 a' c' (filL b k) ∧ Keeps Nil w wr ∧ ∀ g, blk a' = some g → w.heap.size ≤ g)) (fun _ i _ => n - (intOf i).toNat)
  case atStart => exact ⟨0, none, 0, Nat.zero_le _, rfl, rfl, Lib.hid ⟨RowAt.nil _ _ _, Keeps.refl _ _, fun g h => by cases h⟩⟩
  case round =>
    obtain ⟨k, a', c', hk, rfl, rfl, hrel⟩ := hrel
    by_cases hlt : k < n
    · have hk6 : k < 1000000 := by omega
      have hrw := Lib.hid (show RowAt wr 5 1 a' k c' ((filL b k).map (Value.int .u8)) by have := hrel.out.1; unfold NumRow at this; rw [filL_len] at this; exact this)
      have n1 := Lib.hid (show k + 1 ≤ maxLen by simp only [maxLen]; omega)
      have n2 := Lib.hid (show (k + 1) * 1 ≤ 140737488355328 by omega)
      by_cases hm0 : m = 0
      · subst hm0
        have hv := Lib.hid (show filB b k = ((k : Int) * 7) % 256 by unfold filB; rw [if_pos hb'.out])
        go_wp2_with (at_builtin; refine wpList_app _ rfl _ _ 22 rfl 5 i5 (.int .u8 0) 1 1 Try.underlying22 hi hz0 hz1 hz2 rfl (by decide) a' k c' ((filL b k).map (Value.int .u8)) rfl _ 1 1 [Value.int .u8 ((k : Int) * 7 % 256)] rfl ?_ (by exact hrw.out.keeps ((Keeps.refl Nil _).alloc _) (fun _ _ h => h)) (by exact (src_built _ (l := [Value.int .u8 ((k : Int) * 7 % 256)]) (n := 1) (E := 5) rfl)) (fun h => by cases h) (by intro u hu; rw [List.mem_singleton] at hu; subst hu; rfl) (by exact n1.out) (by exact n2.out); intro a5 cap5 w5 hr5 hk5 hb5; have hD := Lib.hid (fill_step hrel.out hv.out ((Keeps.refl Nil wr).alloc _) hr5 hk5 hb5); clear hr5 hk5 hb5)
        go_roundw
        case rel => exact ⟨k + 1, a5, cap5, by omega, by go_num, rfl, hD⟩
        case measure => simp [intOf]; omega
      · have hmp : 0 < m := by omega
        obtain ⟨d1, d2, d3, d4⟩ := divmod_nat k m hmp
        have hqm : k % m < m := Nat.mod_lt _ hmp
        have hv := Lib.hid (show filB b k = (gi b (k % m) + ((k / m : Nat) : Int)) % 256 by unfold filB; rw [if_neg (by rw [hb'.out]; exact hm0), hb'.out])
        obtain ⟨gb, off, rfl, hc⟩ := hx'.out (k % m) (by rw [hb'.out]; exact hqm)
        have c0 := hrel.out.2.1.cell hc (fun h => h)
        have hdk : k / m ≤ k := Nat.div_le_self _ _
        obtain ⟨y, hy⟩ : ∃ y, gi b (k % m) = y := ⟨_, rfl⟩
        rw [hy] at c0 hv
        obtain ⟨q, hq⟩ : ∃ q, k % m = q := ⟨_, rfl⟩
        obtain ⟨t, ht⟩ : ∃ t, k / m = t := ⟨_, rfl⟩
        rw [hq] at d1 d3 c0 hqm
        rw [ht] at d2 d4 hv hdk
        have hm1 : ¬ ((m : Int) = 0) := by omega
        have hm2 : (0 : Int) < (m : Int) := by omega
        clear hc hy hq ht
        go_wp2_with fail
        go_quiet (fail)
        clear d1 d2 d3 d4
        go_wp2_with (at_builtin; refine wpList_app _ rfl _ _ 22 rfl 5 i5 (.int .u8 0) 1 1 Try.underlying22 hi hz0 hz1 hz2 rfl (by decide) a' k c' ((filL b k).map (Value.int .u8)) rfl _ 1 1 [Value.int .u8 ((y + (t : Int)) % 256)] rfl ?_ (by exact hrw.out.keeps (((Keeps.refl Nil wr).drewN _).alloc _) (fun _ _ h => h)) (by exact (src_built _ (l := [Value.int .u8 ((y + (t : Int)) % 256)]) (n := 1) (E := 5) rfl)) (fun h => by cases h) (by intro u hu; rw [List.mem_singleton] at hu; subst hu; rfl) (by exact n1.out) (by exact n2.out); intro a5 cap5 w5 hr5 hk5 hb5; have hD := Lib.hid (fill_step hrel.out hv.out (((Keeps.refl Nil wr).drewN _).alloc _) hr5 hk5 hb5); clear hr5 hk5 hb5)
        go_roundw
        case rel => exact ⟨k + 1, a5, cap5, by omega, by go_num, rfl, hD⟩
        case measure => simp [intOf]; omega
    · go_wp2_with fail
      go_ret
      have hkn : k = n := by omega
      rw [hkn] at hrel ⊢
      exact ⟨a', c', rfl, hrel.out⟩
end Go.Proofs.Ytglpacdenfoicaa
