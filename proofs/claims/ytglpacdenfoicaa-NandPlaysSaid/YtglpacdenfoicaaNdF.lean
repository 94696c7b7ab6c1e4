/- nand: math/bits.Mul, slices.Repeat of a byte -/
import Derived.Test.YtglpacdenfoicaaNdE
import Derived.Shelf.Bits.Mul64
namespace Go.Proofs.Ytglpacdenfoicaa
open Go.RowKit

set_option maxHeartbeats 2000000 in
theorem mul74 (x y : Nat) (hx : x < 18446744073709551616) (hy : y < 18446744073709551616) (w : World) :
    Calls Try.prog 74 #[.int .u64 x, .int .u64 y] w fun e w' => e = .returned (.tuple #[.int .u64 ((x * y / 18446744073709551616 : Nat) : Int), .int .u64 ((x * y % 18446744073709551616 : Nat) : Int)]) ∧ w' = w := by
  obtain ⟨bd, bt, bw, hhi⟩ := Lib.mul64_hi x y hx hy
  have ba := Lib.half_mul_le (a := x / 4294967296) (b := y / 4294967296) (by omega) (by omega)
  have bb := Lib.half_mul_le (a := x / 4294967296) (b := y % 4294967296) (by omega) (by omega)
  have bc := Lib.half_mul_le (a := x % 4294967296) (b := y / 4294967296) (by omega) (by omega)
  have ba' : x / 4294967296 * (y / 4294967296) < 18446744073709551616 := by omega
  have bb' : x / 4294967296 * (y % 4294967296) < 18446744073709551616 := by omega
  have bc' : x % 4294967296 * (y / 4294967296) < 18446744073709551616 := by omega
  have bh1 : x / 4294967296 * (y / 4294967296) + (x / 4294967296 * (y % 4294967296) + x % 4294967296 * (y % 4294967296) / 4294967296) / 4294967296 < 18446744073709551616 := by omega
  have bh : x / 4294967296 * (y / 4294967296) + (x / 4294967296 * (y % 4294967296) + x % 4294967296 * (y % 4294967296) / 4294967296) / 4294967296 + ((x / 4294967296 * (y % 4294967296) + x % 4294967296 * (y % 4294967296) / 4294967296) % 4294967296 + x % 4294967296 * (y / 4294967296)) / 4294967296 < 18446744073709551616 := by omega
  go_enter Try.func74, Try.ntmps74
  go_wp2
  simp only [Mul64.maskN x hx, Mul64.maskN y hy, Mul64.divN, Mul64.mulN, Mul64.addN, Mul64.wrapN _ bd, Mul64.wrapN _ bb', Mul64.wrapN _ bt, Mul64.maskN _ bt, Mul64.wrapN _ bc', Mul64.wrapN _ bw, Mul64.wrapN _ ba', Mul64.wrapN _ bh1, Mul64.wrapN _ bh, Mul64.wrapM (x * y)]
  rw [hhi]
  go_ret2
  exact ⟨rfl, rfl⟩
set_option maxHeartbeats 2000000 in
theorem mul72 (n : Nat) (hn : n < 18446744073709551616) (w : World) :
    Calls Try.prog 72 #[.int .u64 1, .int .u64 n] w fun e w' => e = .returned (.tuple #[.int .u64 0, .int .u64 n]) ∧ w' = w := by
  have h := mul74 1 n (by decide) hn w
  rw [Nat.one_mul, Nat.div_eq_of_lt hn, Nat.mod_eq_of_lt hn] at h
  have h' := Lib.hid h
  clear h
  go_enter Try.func72, Try.ntmps72
  go_wp2_with fail
  refine (h'.out).mono ?_
  rintro e w1 ⟨rfl, rfl⟩
  go_wp2_with fail
  go_ret2
  exact ⟨rfl, rfl⟩

theorem size5 : (Try.prog.info? 5).map (·.size) = some 1 := by kernel_rfl
theorem rep_splice {α : Type} (x z : α) {k n : Nat} : splice (List.replicate k x ++ List.replicate (n - k) z) k (List.replicate (Nat.min k (n - k)) x) = List.replicate (k + Nat.min k (n - k)) x ++ List.replicate (n - (k + Nat.min k (n - k))) z := by
  have hm : Nat.min k (n - k) ≤ n - k := Nat.min_le_right _ _
  unfold splice
  rw [List.take_left' (by simp), ← List.replicate_append_replicate, List.append_assoc, List.drop_append, List.length_replicate]
  congr 1
  congr 1
  rw [List.drop_eq_nil_of_le (by simp), List.nil_append, List.drop_replicate]
  congr 1
  simp
  omega
set_option maxHeartbeats 2000000 in
set_option maxRecDepth 100000 in
theorem repeat61 {w : World} {b n : Nat} (hn : 1 ≤ n) (hn2 : n ≤ 100000) (hb : w.cell? ⟨b, 0, none⟩ = some (.int .u8 255)) :
    Calls Try.prog 61 #[.slice (some ⟨b, 0, none⟩) 1 1, .int .i64 n] w fun e w' => ∃ g, e = .returned (.slice (some ⟨g, 0, none⟩) n n) ∧ NumRow .u8 w' 5 (some ⟨g, 0, none⟩) n (List.replicate n 255) ∧ Keeps Nil w w' ∧ w.heap.size ≤ g := by
  obtain ⟨i5, hi, hz0, hz1, hz2⟩ := info_parts Try.info5n
  have hmk := run_make1 (P := Try.prog) w 22 5 i5 (.int .u8 0) 1 Try.underlying22 hi hz0 hz1 hz2 rfl .i64 .i64 n (by omega) (by omega)
  have hM := Lib.hid (mul72 n (by omega) w)
  have w0 : IntKind.u64.wrap (n : Int) = (n : Int) := by rw [IntKind.wrap_u64]; omega
  have w1 : IntKind.i64.wrap (n : Int) = (n : Int) := by rw [IntKind.wrap_i64]; omega
  have x1 : ¬ ((n : Int) < 0) := by omega
  have x2 : ¬ (9223372036854775807 < (n : Int)) := by omega
  have hb' : (w.alloc (.cells (List.replicate n (.int .u8 0)).toArray 5)).cell? ⟨b, 0, none⟩ = some (.int .u8 255) := ((Keeps.refl Nil w).alloc _).cell hb (fun h => h)
  have hblt := lt_of_cell hb
  clear hi hz0 hz1 hz2 hb
  go_enter Try.func61, Try.ntmps61
  go_wp2_with (first
    | (go_at_call 72; refine (hM.out).mono ?_; rintro e w9 ⟨rfl, h9⟩; rw [h9]; clear h9 w9)
    | (refine wpList_cpy _ rfl _ _ 22 22 rfl 5 Try.underlying22 size5 w.heap.size 0 n n (some ⟨b, 0, none⟩) 1 1 rfl rfl (List.replicate n (.int .u8 0)) 5 [.int .u8 255] ?_ (by exact heap_alloc_new w _) (by exact src_one hb') (by simp) (by simp [Value.oneCell']); intro w2 hh2 hk2))
  have htk : List.take n [Value.int .u8 255] = [Value.int .u8 255] := List.take_of_length_le (by simpa using hn)
  have hsp : splice (List.replicate n (Value.int .u8 0)) 0 [Value.int .u8 255] = List.replicate 1 (Value.int .u8 255) ++ List.replicate (n - 1) (Value.int .u8 0) := by
    simp [splice]
  rw [htk, hsp] at hh2
  have hh2' := Lib.hid hh2
  have hk2' := Lib.hid (((Keeps.refl Nil w).alloc (.cells (List.replicate n (.int .u8 0)).toArray 5)).trans' hk2 (fun j hj => .inr (by rw [hj]; exact Nat.le_refl _)))
  clear hh2 hk2 htk hsp hM hmk hb' w0 w1 x1 x2
  obtain ⟨g, hg⟩ : ∃ g : Nat, w.heap.size = g := ⟨_, rfl⟩
  rw [hg] at hh2' ⊢
  have hg' := Lib.hid hg
  clear hg
  go_loopw [8] (fun i wr => ∃ k : Nat, 1 ≤ k ∧ k ≤ n ∧ i = .int .i64 k ∧ wr.heap[g]? = some (.cells (List.replicate k (Value.int .u8 255) ++ List.replicate (n - k) (Value.int .u8 0)).toArray 5 (0, 0)) ∧ Keeps Nil w wr) (fun i _ => n - (intOf i).toNat)
  case atStart => exact ⟨1, Nat.le_refl _, hn, rfl, hh2'.out, hk2'.out⟩
  case round =>
    obtain ⟨k, hk1, hk, rfl, hh, hkp⟩ := hrel
    by_cases hlt : k < n
    · have hh' := Lib.hid hh
      have hkp' := Lib.hid hkp
      have hnk : ¬ n = k := by omega
      have hmp : 1 ≤ Nat.min k (n - k) := Nat.le_min.2 ⟨hk1, by omega⟩
      have hmq : Nat.min k (n - k) ≤ n - k := Nat.min_le_right _ _
      have hml : Nat.min k (n - k) ≤ k := Nat.min_le_left _ _
      obtain ⟨m, hm⟩ : ∃ m, Nat.min k (n - k) = m := ⟨_, rfl⟩
      have hrs := rep_splice (Value.int .u8 255) (Value.int .u8 0) (k := k) (n := n)
      rw [hm] at hmp hmq hml hrs
      have hc : ∀ (ad : Addr) j v, ad = ⟨g, 0, none⟩ → (List.replicate m (Value.int .u8 255))[j]? = some v → wr.cell? (ad.add j) = some v := by
        rintro ad j v rfl hj
        have hjm : j < m := by have := (List.getElem?_eq_some_iff.1 hj).1; simpa using this
        rw [Addr.add_lit, Nat.zero_add, cell_of_heap hh]
        rw [List.getElem?_toArray, List.getElem?_append_left (by simp; omega)]
        rw [List.getElem?_replicate, if_pos hjm] at hj
        rw [List.getElem?_replicate, if_pos (by omega)]
        exact hj
      have hc' := Lib.hid hc
      have hrs' := Lib.hid hrs
      clear hh hkp hc hrs
      go_wp2_with fail
      go_region_law (refine step_copy_splice rfl (.tmp 41) (.tmp 44) 22 22 rfl 5 Try.underlying22 size5 (some ⟨g, k, none⟩) (some ⟨g, 0, none⟩) (n - k) (n - k) k n (by simp [Act.eval, Act.put]) (by simp [Act.eval, Act.put]) g k (List.replicate k (Value.int .u8 255) ++ List.replicate (n - k) (Value.int .u8 0)) 5 hh'.out (List.replicate m (Value.int .u8 255)) (by simp; exact hm.symm) (fun _ => ⟨rfl, _, rfl, fun j v hj => hc'.out _ j v rfl hj⟩) (by simp; omega) (by intro v hv; rw [List.eq_of_mem_replicate hv]; rfl) g wr.drew (Below.refl _ _) (Nat.le_refl _) ?_; intro w4 hg4 hb4; rw [hrs'.out] at hg4; have hk4 := Lib.hid ((hkp'.out.drew).trans' (S := Nil) (T := (g ≤ ·)) ⟨hb4.os, hb4.tape, hb4.output, hb4.size, fun i hi hn => hb4.block i (Nat.lt_of_not_le hn)⟩ (fun j hj => .inr (by rw [hg'.out]; exact hj))); have hg4' := Lib.hid hg4.out; clear hb4 hg4)
      change Exit.inBlock 1 _ _ (Act.put (Act.put _ (some 46) _) (some 8) _) _
      clear hrs' hc'
      rw [show IntKind.i64.wrap ((k : Int) + (m : Int)) = ((k + m : Nat) : Int) from by rw [IntKind.wrap_i64]; omega]
      go_frame
      go_wp2
      go_roundw
      case rel => exact ⟨k + m, by omega, by omega, by go_num, hg4'.out, hk4.out⟩
      case measure => simp [intOf]; omega
    · have hkn : k = n := by omega
      subst hkn
      have hR : wr.heap[g]? = some (.cells ((List.replicate k (255 : Int)).map (Value.int .u8)).toArray 5 (0, 0)) := by rw [hh]; simp
      have hR' := Lib.hid hR
      have hkp' := Lib.hid hkp
      clear hh hkp hR
      go_wp2_with fail
      go_ret
      exact ⟨g, rfl, ⟨by simp, .inr ⟨g, k, _, by simp, Nat.zero_le _, hR'.out, by simp, by unfold maxLen; omega, by simp, by simp⟩⟩, hkp'.out, by rw [hg'.out]; exact Nat.le_refl _⟩
end Go.Proofs.Ytglpacdenfoicaa
