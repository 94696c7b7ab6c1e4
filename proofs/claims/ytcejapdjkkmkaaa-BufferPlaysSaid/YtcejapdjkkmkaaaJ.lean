/- BufferBounds: the walk -/
import Derived.Test.YtcejapdjkkmkaaaI
namespace Go.Proofs.Ytcejapdjkkmkaaa
open Go.RowKit

attribute [local go_sem ↓] Go.wp_at_zero Go.wp_at_succ

theorem zeroV3 (w : World) : (zeroValue 3).run Try.prog w = .ok (.int .i64 0) w := zero3 w

variable {w : World} {bb : Nat} {most : Int} {l : List It} {O : Nat → Prop}
/-- the buffer and the map of the keys that were taken in -/
structure MetB (w0 w : World) (bb tb : Nat) (most : Int) (l : List It) (f : List (Int × Value)) (O : Nat → Prop) : Prop where
  b : BufIn w0 w bb most l O
  len : (l.length : Int) ≤ most
  m : MapAt w tb f
  keys : mkeys f = ikeys l
  ge : w0.heap.size ≤ tb
  no : ¬ O tb
theorem MetB.flen {w0 : World} {tb : Nat} {f : List (Int × Value)} (h : MetB w0 w bb tb most l f O) : f.length = l.length := by
  have := congrArg List.length h.keys
  simpa [mkeys, ikeys] using this
theorem iput_in {r : It} (h : r.key ∈ ikeys l) : icode most r.key l = 0 ∧ ikeys (iput most r l) = ikeys l := by
  have e : ifull most r.key l = false := by
    cases hg : iget r.key l with
    | none => exact absurd h (iget_none.1 hg)
    | some x => simp [ifull, hg]
  unfold icode iput
  rw [e]
  exact ⟨rfl, ikeys_set_in h⟩
theorem iput_new {r : It} (h : r.key ∉ ikeys l) (hl : (l.length : Int) < most) : icode most r.key l = 0 ∧ ikeys (iput most r l) = ikeys l ++ [r.key] := by
  have e : ifull most r.key l = false := by simp [ifull]; intro _; omega
  unfold icode iput
  rw [e]
  refine ⟨rfl, ?_⟩
  simp [iset_new h, ikeys]
theorem iput_full {r : It} (h : r.key ∉ ikeys l) (hl : most ≤ (l.length : Int)) : icode most r.key l = 90 ∧ iput most r l = l := by
  have e : ifull most r.key l = true := by simp [ifull, iget_none.2 h]; omega
  unfold icode iput
  rw [e]
  exact ⟨rfl, rfl⟩
theorem ikeys_len (l : List It) : (ikeys l).length = l.length := by simp [ikeys]

theorem MetB.trim {w0 w1 w2 : World} {tb : Nat} {f : List (Int × Value)} (h : MetB w0 w bb tb most l f O) {r : It} {v : Value} {e : Ending} (hl' : ((iput most r l).length : Int) ≤ most) (hB : BOut w bb most O v (iput most r l) e w1) (hm : MapAt w2 tb (mset r.key (.int .i64 1) f)) (hk : Keeps (· = tb) w1 w2) (hkeys : mkeys (mset r.key (.int .i64 1) f) = ikeys (iput most r l)) :
    ∃ O', MetB w0 w2 bb tb most (iput most r l) (mset r.key (.int .i64 1) f) O' := by
  obtain ⟨rfl, O', h1, h2, h3⟩ := h.b.out (Keeps.refl _ _) hB
  have hno : ¬ O' tb := fun ho => by
    rcases h3 tb ho with h4 | h4
    · exact h.no h4
    · have := h.m.lt; omega
  refine ⟨O', ⟨h1.x.keeps hk (fun k hk e => hno (e ▸ hk)), h1.k.trans' hk (fun j hj => .inr (by rw [hj]; exact h.ge)), h1.o⟩, hl', hm, hkeys, h.ge, hno⟩

set_option maxHeartbeats 8000000 in
set_option maxRecDepth 100000 in
theorem bounds_any (most : Int) (ax : Option Addr) (capx : Nat) (xs : List Int) (w : World) (h0 : -9223372036854775808 ≤ most) (h1 : most ≤ 9223372036854775807) (hx : IntsAt w ax xs) (hmx : xs.length ≤ maxLen) :
    Calls Try.prog 4 #[.int .i64 most, .slice ax xs.length capx] w fun e w' => e = .returned (.bool true) ∧ Keeps Nil w w' := by
  obtain ⟨a, ha⟩ : ∃ a, absI most = a := ⟨_, rfl⟩
  have ha0 : 0 ≤ a := by rw [← ha]; exact absI_nonneg _
  have hA := Lib.hid (fun W => abs_val most a W h0 h1 ha)
  have ham : 0 ≤ a % 20 := by omega
  have ham2 : a % 20 ≤ 19 := by omega
  have hmx2 : xs.length ≤ 9223372036854775807 := by unfold maxLen at hmx; omega
  have hx' := Lib.hid hx
  have hmk := @run_makeMap Try.prog
  clear ha h0 h1 hx hmx
  go_enter Try.func4, Try.ntmps4
  go_wp2_with fail
  refine (awake_any w).mono ?_
  rintro e w1 ⟨rfl, hk1⟩
  have hk1' := Lib.hid hk1
  clear hk1
  go_wp2_with fail
  refine (hA.out _).mono ?_
  rintro e w2 ⟨rfl, rfl⟩
  go_wp2_with fail
  refine (newX (1 + a % 20) w1 (by omega)).mono ?_
  rintro e w2 ⟨bb, O, rfl, hL, hK, hO⟩
  have hB0 := Lib.hid (show BufIn w w2 bb (1 + a % 20) [] O from ⟨hL, hk1'.out.trans hK, fun k hk => by have := hO k hk; have := hk1'.out.size; omega⟩)
  clear hL hK hO hk1' hA
  go_wp2_with fail
  obtain ⟨tb, htb⟩ : ∃ tb : Nat, tb = w2.heap.size := ⟨_, rfl⟩
  have hM0 := Lib.hid (show MetB w (w2.alloc (.map #[] 0)) bb tb (1 + a % 20) [] [] O from by
    have hk : Keeps Nil w2 (w2.alloc (.map #[] 0)) := (Keeps.refl Nil w2).alloc _
    refine ⟨⟨hB0.out.x.nil hk, hB0.out.k.trans hk, hB0.out.o⟩, by simp; omega, by rw [htb]; exact MapAt.made w2, rfl, by rw [htb]; exact hB0.out.k.size, fun ho => by have := hB0.out.x.lt ho; omega⟩)
  rw [← htb]
  clear htb hB0
  go_loopw [9, 10, 11, 12] (fun i y t f wr => ∃ (k : Nat) (l : List It) (g : List (Int × Value)) (O : Nat → Prop), k ≤ 100 ∧ i = .int .i64 k ∧ MetB w wr bb tb (1 + a % 20) l g O) (fun i _ _ _ _ => 100 - (intOf i).toNat)
  case atStart => exact ⟨0, [], [], O, by omega, rfl, hM0.out⟩
  case round =>
    obtain ⟨i, l, f, O2, hi, rfl, hM⟩ := hrel
    by_cases hin : i < xs.length ∧ i < 100
    · obtain ⟨hi1, hi2⟩ := hin
      obtain ⟨b, off, rfl, cw⟩ := hx'.out i hi1
      have c0 := hM.b.k.cell cw (fun h => h)
      have cw' := Lib.hid cw
      clear cw
      have hlen := hM.len
      have hfl := hM.flen
      have hT := Lib.hid (trimX hM.b.x (gi xs i) hM.len (by omega))
      have hM' := Lib.hid hM
      clear hM
      by_cases hth : gi xs i ∈ ikeys l
      · have hic := iput_in (most := 1 + a % 20) (r := ⟨gi xs i, 2, []⟩) hth
        have hlk : (iput (1 + a % 20) ⟨gi xs i, 2, []⟩ l).length = l.length := by rw [← ikeys_len, hic.2, ikeys_len]
        obtain ⟨v, hv⟩ : ∃ v, mget (gi xs i) f = some v := by
          cases hg : mget (gi xs i) f with
          | none => exact absurd (by rw [hM'.out.keys]; exact hth) (mget_none.1 hg)
          | some v => exact ⟨v, rfl⟩
        have hv' := Lib.hid hv
        have hic' := Lib.hid hic
        have hlk' := Lib.hid hlk
        have hth' := Lib.hid hth
        clear hv hic hlk hth
        go_wp2_with (at_lookup; refine wpList_look_in _ rfl _ _ 38 rfl 3 3 Try.underlying38 Try.underlying3 zeroV3 tb f rfl (by exact hM'.out.m) _ rfl v hv'.out ?_)
        refine (hT.out).mono ?_
        rw [hic'.out.1]
        rintro e w3 ⟨rfl, hB3⟩
        have hB3' := Lib.hid (show BOut wr bb (1 + a % 20) O2 (.int .i64 0) (iput (1 + a % 20) ⟨gi xs i, 2, []⟩ l) (.returned (.int .i64 0)) w3 from ⟨rfl, hB3⟩)
        obtain ⟨-, O3, hI3, hK3, -⟩ := hM'.out.b.out (Keeps.refl Nil _) hB3'.out
        have c1 := hI3.k.cell cw'.out (fun h => h)
        have hm3 := Lib.hid (hM'.out.m.keeps hK3 hM'.out.no)
        have hks := Lib.hid (show mkeys (mset (gi xs i) (.int .i64 1) f) = ikeys (iput (1 + a % 20) ⟨gi xs i, 2, []⟩ l) from by rw [hic'.out.2]; rw [mkeys_set_in (by rw [hM'.out.keys]; exact hth'.out)]; exact hM'.out.keys)
        have hd1 : decide (1 + a % 20 < (l.length : Int)) = false := decide_eq_false (by omega)
        clear hB3 hI3 hK3 c0 hT
        go_wp2_with (at_mapUpdate; refine wpList_upd _ rfl _ _ _ 38 rfl 3 3 Try.underlying38 Try.underlying3 tb f rfl (by exact hm3.out) _ rfl (.int .i64 1) rfl ?_; intro w4 hm4 hk4 hz4)
        obtain ⟨O4, hM4⟩ := hM'.out.trim (r := ⟨gi xs i, 2, []⟩) (by rw [hlk'.out]; omega) hB3'.out hm4 hk4 hks.out
        have hLen := Lib.hid (by have := lenX hM4.b.x; rw [hlk'.out] at this; exact this)
        have hml : ∀ ty, (Builtin.len_ #[38] ty #[.map (some tb)]).run Try.prog w4 = .ok (.int .i64 (l.length : Nat)) w4 := fun ty => by
          have := run_mlen (P := Try.prog) Try.underlying38 hM4.m ty
          rw [hM4.flen, hlk'.out] at this
          exact this
        have hM4' := Lib.hid hM4
        clear hM4 hm4 hk4 hz4
        refine (hLen.out).mono ?_
        rintro e w5 ⟨rfl, rfl⟩
        go_wp2_with fail
        go_roundw
        case rel => exact ⟨i + 1, _, _, O4, by omega, by go_num, hM4'.out⟩
        case measure => simp [intOf]; omega
      · have hout : mget (gi xs i) f = none := mget_none.2 (by rw [hM'.out.keys]; exact hth)
        have hv' := Lib.hid hout
        have hth' := Lib.hid hth
        clear hout hth
        by_cases hfu : (l.length : Int) < 1 + a % 20
        · have hic := iput_new (most := 1 + a % 20) (r := ⟨gi xs i, 2, []⟩) hth'.out hfu
          have hlk : (iput (1 + a % 20) ⟨gi xs i, 2, []⟩ l).length = l.length + 1 := by rw [← ikeys_len, hic.2, List.length_append, ikeys_len]; rfl
          have hic' := Lib.hid hic
          have hlk' := Lib.hid hlk
          have e2 : decide ((l.length : Int) < 1 + a % 20) = true := decide_eq_true hfu
          clear hic hlk
          go_wp2_with (at_lookup; refine wpList_look_out _ rfl _ _ 38 rfl 3 3 Try.underlying38 Try.underlying3 zeroV3 tb f rfl (by exact hM'.out.m) _ rfl hv'.out ?_)
          refine (hT.out).mono ?_
          rw [hic'.out.1]
          rintro e w3 ⟨rfl, hB3⟩
          have hB3' := Lib.hid (show BOut wr bb (1 + a % 20) O2 (.int .i64 0) (iput (1 + a % 20) ⟨gi xs i, 2, []⟩ l) (.returned (.int .i64 0)) w3 from ⟨rfl, hB3⟩)
          obtain ⟨-, O3, hI3, hK3, -⟩ := hM'.out.b.out (Keeps.refl Nil _) hB3'.out
          have c1 := hI3.k.cell cw'.out (fun h => h)
          have hm3 := Lib.hid (hM'.out.m.keeps hK3 hM'.out.no)
          have hml3 : ∀ ty, (Builtin.len_ #[38] ty #[.map (some tb)]).run Try.prog w3 = .ok (.int .i64 (l.length : Nat)) w3 := fun ty => by
            have := run_mlen (P := Try.prog) Try.underlying38 hm3.out ty
            rw [hM'.out.flen] at this
            exact this
          have hks := Lib.hid (show mkeys (mset (gi xs i) (.int .i64 1) f) = ikeys (iput (1 + a % 20) ⟨gi xs i, 2, []⟩ l) from by rw [hic'.out.2]; rw [mset_new (by rw [hM'.out.keys]; exact hth'.out)]; rw [← hM'.out.keys]; simp [mkeys])
          have hd1 : decide (1 + a % 20 < ((l.length + 1) : Int)) = false := decide_eq_false (by omega)
          clear hB3 hI3 hK3 c0 hT
          go_wp2_with (at_mapUpdate; refine wpList_upd _ rfl _ _ _ 38 rfl 3 3 Try.underlying38 Try.underlying3 tb f rfl (by exact hm3.out) _ rfl (.int .i64 1) rfl ?_; intro w4 hm4 hk4 hz4)
          obtain ⟨O4, hM4⟩ := hM'.out.trim (r := ⟨gi xs i, 2, []⟩) (by rw [hlk'.out]; omega) hB3'.out hm4 hk4 hks.out
          have hLen := Lib.hid (by have := lenX hM4.b.x; rw [hlk'.out] at this; exact this)
          have hml : ∀ ty, (Builtin.len_ #[38] ty #[.map (some tb)]).run Try.prog w4 = .ok (.int .i64 ((l.length + 1) : Nat)) w4 := fun ty => by
            have := run_mlen (P := Try.prog) Try.underlying38 hM4.m ty
            rw [hM4.flen, hlk'.out] at this
            exact this
          have hM4' := Lib.hid hM4
          clear hM4 hm4 hk4 hz4
          refine (hLen.out).mono ?_
          rintro e w5 ⟨rfl, rfl⟩
          go_wp2_with fail
          go_roundw
          case rel => exact ⟨i + 1, _, _, O4, by omega, by go_num, hM4'.out⟩
          case measure => simp [intOf]; omega

        · have hic := iput_full (most := 1 + a % 20) (r := ⟨gi xs i, 2, []⟩) hth'.out (by omega)
          have hic' := Lib.hid hic
          have e2 : decide ((l.length : Int) < 1 + a % 20) = false := decide_eq_false hfu
          clear hic
          go_wp2_with (at_lookup; refine wpList_look_out _ rfl _ _ 38 rfl 3 3 Try.underlying38 Try.underlying3 zeroV3 tb f rfl (by exact hM'.out.m) _ rfl hv'.out ?_)
          refine (hT.out).mono ?_
          rw [hic'.out.1, hic'.out.2]
          rintro e w3 ⟨rfl, hB3⟩
          obtain ⟨-, O3, hI3, hK3, hG3⟩ := hM'.out.b.out (Keeps.refl Nil _) (show BOut wr bb (1 + a % 20) O2 (.int .i64 90) l (.returned (.int .i64 90)) w3 from ⟨rfl, hB3⟩)
          have hM4 : MetB w w3 bb tb (1 + a % 20) l f O3 := ⟨hI3, hM'.out.len, hM'.out.m.keeps hK3 hM'.out.no, hM'.out.keys, hM'.out.ge, fun ho => by
            rcases hG3 tb ho with h4 | h4
            · exact hM'.out.no h4
            · have := hM'.out.m.lt; omega⟩
          have hml3 : ∀ ty, (Builtin.len_ #[38] ty #[.map (some tb)]).run Try.prog w3 = .ok (.int .i64 (l.length : Nat)) w3 := fun ty => by
            have := run_mlen (P := Try.prog) Try.underlying38 hM4.m ty
            rw [hM4.flen] at this
            exact this
          have hLen := Lib.hid (lenX hM4.b.x)
          have hM4' := Lib.hid hM4
          have hd1 : decide (1 + a % 20 < (l.length : Int)) = false := decide_eq_false (by omega)
          clear hB3 hI3 hK3 hG3 c0 hT hM4
          go_wp2_with fail
          refine (hLen.out).mono ?_
          rintro e w5 ⟨rfl, rfl⟩
          go_wp2_with fail
          go_roundw
          case rel => exact ⟨i + 1, _, _, O3, by omega, by go_num, hM4'.out⟩
          case measure => simp [intOf]; omega
    · have hcase : (i < xs.length ∧ ¬ i < 100) ∨ ¬ i < xs.length := by omega
      have hK := Lib.hid hM.b.k
      clear hM hin
      rcases hcase with ⟨hi1, hi2⟩ | hi1
      all_goals
        go_wp2_with fail
        go_ret
        exact ⟨rfl, hK.out⟩
end Go.Proofs.Ytcejapdjkkmkaaa
