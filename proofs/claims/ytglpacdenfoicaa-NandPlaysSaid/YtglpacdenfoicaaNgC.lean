/- the document's array: blank, Next, Erases, Marked -/
import Derived.Test.YtglpacdenfoicaaNgB
import Derived.Test.YtglpacdenfoicaaNeS
namespace Go.Proofs.Ytglpacdenfoicaa
open Go.RowKit

theorem blank_push (n : Nat) : List.replicate n (255 : Int) ++ [255] = List.replicate (n + 1) 255 := by
  rw [show [(255 : Int)] = List.replicate 1 255 from rfl, List.replicate_append_replicate]
set_option maxHeartbeats 4000000 in
set_option maxRecDepth 100000 in
theorem blank42 (w : World) (n : Nat) (hn : n ≤ 100000) : Calls Try.prog 42 #[.int .i64 (n : Nat)] w fun e w' => ∃ a' c', e = .returned (.slice a' n c') ∧ NumRow .u8 w' 5 a' c' (List.replicate n 255) ∧ Keeps Nil w w' ∧ ∀ g, blk a' = some g → w.heap.size ≤ g := by
  obtain ⟨i5, hi, hz0, hz1, hz2⟩ := info_parts Try.info5n
  go_enter Try.func42, Try.ntmps42
  go_wp2_with fail
  go_loopw [3, 4] (fun o i wr => ∃ k : Nat, ∃ a' : Option Addr, ∃ c' : Nat, k ≤ n ∧ i = .int .i64 k ∧ o = .slice a' k c' ∧ Hid (NumRow .u8 wr 5 a' c' (List.replicate k 255) ∧ Keeps Nil w wr ∧ ∀ g, blk a' = some g → w.heap.size ≤ g)) (fun _ i _ => n - (intOf i).toNat)
  case atStart => exact ⟨0, none, 0, Nat.zero_le _, rfl, rfl, Lib.hid ⟨RowAt.nil _ _ _, Keeps.refl _ _, fun g h => by cases h⟩⟩
  case round =>
    obtain ⟨k, a', c', hk, rfl, rfl, hrel⟩ := hrel
    by_cases hlt : k < n
    · have hk6 : k < 100000 := by omega
      have n1 := Lib.hid (show k + 1 ≤ maxLen by simp only [maxLen]; omega)
      have n2 := Lib.hid (show (k + 1) * 1 ≤ 140737488355328 by omega)
      have hrw := Lib.hid (show RowAt wr 5 1 a' k c' ((List.replicate k (255 : Int)).map (Value.int .u8)) by have := hrel.out.1; unfold NumRow at this; rw [List.length_replicate] at this; exact this)
      go_wp2_with (at_builtin; refine wpList_app _ rfl _ _ 22 rfl 5 i5 (.int .u8 0) 1 1 Try.underlying22 hi hz0 hz1 hz2 rfl (by decide) a' k c' ((List.replicate k (255 : Int)).map (Value.int .u8)) rfl _ 1 1 [Value.int .u8 255] rfl ?_ (by exact hrw.out.keeps ((Keeps.refl Nil _).alloc _) (fun _ _ h => h)) (by exact (src_built _ (l := [Value.int .u8 255]) (n := 1) (E := 5) rfl)) (fun h => by cases h) (by intro u hu; rw [List.mem_singleton] at hu; subst hu; rfl) (by exact n1.out) (by exact n2.out); intro a5 cap5 w5 hr5 hk5 hb5; have hD := Lib.hid (show NumRow .u8 w5 5 a5 cap5 (List.replicate (k + 1) 255) ∧ Keeps Nil w w5 ∧ ∀ g, blk a5 = some g → w.heap.size ≤ g from ⟨by unfold NumRow; rw [List.length_replicate, ← blank_push, List.map_append]; exact hr5, (hrel.out.2.1.alloc _).trans' hk5 (fun j hj => .inr (hrel.out.2.2 j hj)), fun g hg => by rcases hb5 with h | ⟨h, _⟩; exact hrel.out.2.2 g (h ▸ hg); rw [h] at hg; cases hg; exact (hrel.out.2.1.alloc _).size⟩); clear hr5 hk5 hb5)
      go_roundw
      case rel => exact ⟨k + 1, a5, cap5, by omega, by go_num, rfl, hD⟩
      case measure => simp [intOf]; omega
    · go_wp2_with fail
      go_ret
      have hkn : k = n := by omega
      rw [hkn] at hrel ⊢
      exact ⟨a', c', rfl, hrel.out⟩
variable {w w' : World} {rb bb bc fc lc : Nat} {pb pc : Nat → Nat} {fa la : Option Addr} {L : List Fx} {A A' : Nd} {O T : Nat → Prop}
/-- a block's place in the row of all -/
structure Flat (w : World) (rb bb bc N len d n ix db : Nat) : Prop where
  m : (d : Int) * (N : Int) = (db : Int)
  w1 : IntKind.i64.wrap (db : Int) = (db : Int)
  w2 : IntKind.i64.wrap ((db : Int) + (n : Int)) = (ix : Int)
  lt : ix < len
  c1 : w.cell? ⟨rb, 1, none⟩ = some (.int .i64 (N : Nat))
  c4 : w.cell? ⟨rb, 4, none⟩ = some (.slice (some ⟨bb, 0, none⟩) len bc)
theorem RfB.flat (h : RfB w rb A bb bc pb pc fa fc la lc L O) (hS : A.S.Ok) {d n : Nat} (hd : d < A.S.dies) (hn : n < A.S.blocks) : ∃ db, Flat w rb bb bc A.S.blocks (A.S.dies * A.S.blocks) d n (d * A.S.blocks + n) db := by
  have c1 := h.cell 1
  have c4 := h.cell 4
  simp only [rfCells, List.getElem?_toArray, List.getElem?_cons_zero, List.getElem?_cons_succ] at c1 c4
  have hlt := flat_lt hd hn
  have hle := Nat.mul_le_mul hS.d2 hS.b2
  refine ⟨d * A.S.blocks, (Int.natCast_mul d A.S.blocks).symm, IntWalk.i64_in _ (by omega), ?_, hlt, c1, c4⟩
  rw [IntWalk.i64_in _ (by omega)]
  omega
set_option maxHeartbeats 2000000 in
theorem next44 (h : RfB w rb A bb bc pb pc fa fc la lc L O) (hS : A.S.Ok) (d n : Int) : Calls Try.prog 44 #[.pointer (some ⟨rb, 0, none⟩), .int .i64 d, .int .i64 n] w fun e w' => e = .returned (.int .i64 (A.nextI d n)) ∧ Keeps Nil w w' := by
  have hIn := Lib.hid (in65 h d n)
  by_cases hi : inAt A.S d n = true
  · obtain ⟨i, j, rfl, rfl, hd, hn⟩ := inAt_t hi
    obtain ⟨db, hF⟩ := h.flat hS hd hn
    obtain ⟨_, k1, _, _⟩ := h.cellD hd hn
    have hr : A.nextI i j = (A.B i j).next := by unfold Nd.nextI; rw [if_pos hi]; rfl
    rw [hr]
    rw [hi] at hIn
    obtain ⟨z, hz⟩ : ∃ z, (A.B i j).next = z := ⟨_, rfl⟩
    rw [hz] at k1 ⊢
    obtain ⟨ix, hix⟩ : ∃ ix, i * A.S.blocks + j = ix := ⟨_, rfl⟩
    rw [hix] at hF k1
    obtain ⟨m, w1, w2, lt, c1, c4⟩ := hF
    obtain ⟨len, hlen⟩ : ∃ len, A.S.dies * A.S.blocks = len := ⟨_, rfl⟩
    rw [hlen] at lt c4
    clear h hr hi hz hix hlen
    go_enter Try.func44, Try.ntmps44
    go_wp2_with fail
    refine (hIn.out).mono ?_
    rintro e w3 ⟨rfl, hw3⟩
    rw [hw3]
    clear hw3 w3 hIn
    go_wp2_with fail
    go_quiet (fail)
    go_wp2_with fail
    go_ret
    exact ⟨rfl, (Keeps.refl Nil w).drewN _⟩
  · have hi2 : inAt A.S d n = false := by simpa using hi
    have hr : A.nextI d n = -1 := by unfold Nd.nextI; rw [if_neg hi]
    rw [hr]
    rw [hi2] at hIn
    clear h hr
    go_enter Try.func44, Try.ntmps44
    go_wp2_with fail
    refine (hIn.out).mono ?_
    rintro e w3 ⟨rfl, hw3⟩
    rw [hw3]
    clear hw3 w3 hIn
    go_wp2_with fail
    go_ret
    exact ⟨rfl, Keeps.refl _ _⟩
set_option maxHeartbeats 2000000 in
theorem erases50 (h : RfB w rb A bb bc pb pc fa fc la lc L O) (hS : A.S.Ok) (d n : Int) : Calls Try.prog 50 #[.pointer (some ⟨rb, 0, none⟩), .int .i64 d, .int .i64 n] w fun e w' => e = .returned (.int .i64 (A.erasesI d n)) ∧ Keeps Nil w w' := by
  have hIn := Lib.hid (in65 h d n)
  by_cases hi : inAt A.S d n = true
  · obtain ⟨i, j, rfl, rfl, hd, hn⟩ := inAt_t hi
    obtain ⟨db, hF⟩ := h.flat hS hd hn
    obtain ⟨_, _, k1, _⟩ := h.cellD hd hn
    have hr : A.erasesI i j = ((A.B i j).er : Int) := by unfold Nd.erasesI; rw [if_pos hi]; rfl
    rw [hr]
    rw [hi] at hIn
    obtain ⟨z, hz⟩ : ∃ z : Int, ((A.B i j).er : Int) = z := ⟨_, rfl⟩
    rw [hz] at k1 ⊢
    obtain ⟨ix, hix⟩ : ∃ ix, i * A.S.blocks + j = ix := ⟨_, rfl⟩
    rw [hix] at hF k1
    obtain ⟨m, w1, w2, lt, c1, c4⟩ := hF
    obtain ⟨len, hlen⟩ : ∃ len, A.S.dies * A.S.blocks = len := ⟨_, rfl⟩
    rw [hlen] at lt c4
    clear h hr hi hz hix hlen
    go_enter Try.func50, Try.ntmps50
    go_wp2_with fail
    refine (hIn.out).mono ?_
    rintro e w3 ⟨rfl, hw3⟩
    rw [hw3]
    clear hw3 w3 hIn
    go_wp2_with fail
    go_quiet (fail)
    go_wp2_with fail
    go_ret
    exact ⟨rfl, (Keeps.refl Nil w).drewN _⟩
  · have hi2 : inAt A.S d n = false := by simpa using hi
    have hr : A.erasesI d n = 0 := by unfold Nd.erasesI; rw [if_neg hi]
    rw [hr]
    rw [hi2] at hIn
    clear h hr
    go_enter Try.func50, Try.ntmps50
    go_wp2_with fail
    refine (hIn.out).mono ?_
    rintro e w3 ⟨rfl, hw3⟩
    rw [hw3]
    clear hw3 w3 hIn
    go_wp2_with fail
    go_ret
    exact ⟨rfl, Keeps.refl _ _⟩
theorem marked52 (h : RfB w rb A bb bc pb pc fa fc la lc L O) (hl : L.length ≤ 2000) (d n : Int) : Calls Try.prog 52 #[.pointer (some ⟨rb, 0, none⟩), .int .i64 d, .int .i64 n] w fun e w' => e = .returned (.bool (A.markedI d n)) ∧ Keeps Nil w w' := by
  have hIn := Lib.hid (in65 h d n)
  have hSt := Lib.hid (struck68 h hl 0 6 d n)
  unfold Nd.markedI
  obtain ⟨v, hv⟩ : ∃ v, A.struck 0 6 d n = v := ⟨_, rfl⟩
  obtain ⟨r, hr⟩ : ∃ r, inAt A.S d n = r := ⟨_, rfl⟩
  rw [hv] at hSt ⊢
  rw [hr] at hIn ⊢
  clear h hv hr
  cases r with
  | false =>
    go_enter Try.func52, Try.ntmps52
    go_wp2_with fail
    refine (hIn.out).mono ?_
    rintro e w3 ⟨rfl, hw3⟩
    rw [hw3]
    clear hw3 w3 hIn
    go_wp2_with fail
    go_ret
    exact ⟨rfl, Keeps.refl _ _⟩
  | true =>
    go_enter Try.func52, Try.ntmps52
    go_wp2_with fail
    refine (hIn.out).mono ?_
    rintro e w3 ⟨rfl, hw3⟩
    rw [hw3]
    clear hw3 w3 hIn
    go_wp2_with fail
    refine (hSt.out).mono ?_
    rintro e w3 ⟨rfl, hk3⟩
    have hk3' := Lib.hid hk3
    clear hk3
    go_wp2_with fail
    go_ret
    exact ⟨rfl, hk3'.out⟩
end Go.Proofs.Ytglpacdenfoicaa
