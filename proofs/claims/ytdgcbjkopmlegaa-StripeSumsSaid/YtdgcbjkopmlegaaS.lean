/- StripeSums: the walk -/
import Derived.Test.YtdgcbjkopmlegaaR4
import Derived.Test.YtdgcbjkopmlegaaJ
namespace Go.Proofs.Ytdgcbjkopmlegaa
open Go.RowKit

attribute [local go_sem ↓] Go.wp_at_zero Go.wp_at_succ

theorem mend21_any {w : World} (S0 N0 T m : Int) {a : Option Addr} {cap : Nat} {Ls : List Lf} (hL : LeavesAt w a Ls) (hok : LeavesOk Ls) (hl : Ls.length * 48 ≤ 140737488355328) (hlc : Ls.length ≤ cap) (hc63 : cap ≤ 9223372036854775807) :
    Calls Try.prog 21 #[.agg #[.int .i64 S0, .int .i64 N0, .int .i64 T], .slice a Ls.length cap, .int .i64 m] w (GenOut w (mendR S0 N0 Ls m)) := by
  unfold mendR
  by_cases h : 0 ≤ m ∧ m < Ls.length ∧ 2 ≤ Ls.length
  · rw [if_pos h]
    obtain ⟨k, rfl⟩ : ∃ k : Nat, m = k := ⟨m.toNat, by omega⟩
    obtain ⟨b, off, _, _, _, _, rfl, _⟩ := hL 0 (by omega)
    rw [Int.toNat_natCast]
    exact mend21_good S0 N0 T k hL hok hl hlc hc63 (by omega) (by omega)
  · rw [if_neg h]
    exact mend21_none S0 N0 T m Ls.length cap a h
theorem mend22_any {w : World} (S0 N0 T m : Int) {a : Option Addr} {cap : Nat} {Ls : List Lf} (hL : LeavesAt w a Ls) (hok : LeavesOk Ls) (hwf : SeqOk Ls) (hl : Ls.length * 48 ≤ 140737488355328) :
    Calls Try.prog 22 #[.agg #[.int .i64 S0, .int .i64 N0, .int .i64 T], .slice a Ls.length cap, .int .i64 m] w (GenOut w (mendR S0 N0 Ls m)) := by
  unfold mendR
  by_cases h : 0 ≤ m ∧ m < Ls.length ∧ 2 ≤ Ls.length
  · rw [if_pos h]
    obtain ⟨k, rfl⟩ : ∃ k : Nat, m = k := ⟨m.toNat, by omega⟩
    rw [Int.toNat_natCast]
    exact mend22_good S0 N0 T k hL hok hwf hl (by omega) (by omega)
  · rw [if_neg h]
    exact mend22_none S0 N0 T m Ls.length cap a h

/-- an answer of known lengths -/
def MadeOut (W : World) (x : Lf) (z1 z2 : Nat) (er : Int) (e : Ending) (w' : World) : Prop :=
  ∃ sa sc ba bc, e = .returned (.tuple #[.agg #[.slice sa z1 sc, .slice ba z2 bc], .int .i64 er]) ∧ LfAt w' sa ba x ∧ Keeps Nil W w'
theorem GenOut.made {W w' : World} {r : Option Lf} {e : Ending} {x : Lf} {z1 z2 : Nat} {er : Int} (h : GenOut W r e w') (hx : lfOf r = x) (h1 : x.sl.length = z1) (h2 : x.se.length = z2) (h3 : errOf r = er) : MadeOut W x z1 z2 er e w' := by
  subst hx h1 h2 h3
  obtain ⟨sa, sc, ba, bc, rfl, ⟨Z, hA, _⟩, hk⟩ := h
  exact ⟨sa, sc, ba, bc, rfl, hA.at, hk⟩

set_option maxHeartbeats 16000000 in
set_option maxRecDepth 100000 in
theorem sums6 {w : World} (S0 N0 T0 m : Int) {a : Option Addr} {cap : Nat} {Ls : List Lf} (hL : LeavesAt w a Ls) (hok : LeavesOk Ls) (hwf : SeqOk Ls) (hl : Ls.length * 48 ≤ 140737488355328) (hlc : Ls.length ≤ cap) (hc63 : cap ≤ 9223372036854775807) :
    Calls Try.prog 6 #[.agg #[.int .i64 S0, .int .i64 N0, .int .i64 T0], .slice a Ls.length cap, .int .i64 m] w fun e w' => e = .returned (.bool true) ∧ Keeps Nil w w' := by
  obtain ⟨x, hx⟩ : ∃ x, lfOf (sumR S0 N0 Ls) = x := ⟨_, rfl⟩
  obtain ⟨y, hy⟩ : ∃ y, lfOf (mendR S0 N0 Ls m) = y := ⟨_, rfl⟩
  obtain ⟨er, her⟩ : ∃ er, errOf (sumR S0 N0 Ls) = er := ⟨_, rfl⟩
  obtain ⟨es, hes⟩ : ∃ es, errOf (mendR S0 N0 Ls m) = es := ⟨_, rfl⟩
  obtain ⟨x1, hx1⟩ : ∃ n, x.sl.length = n := ⟨_, rfl⟩
  obtain ⟨x2, hx2⟩ : ∃ n, x.se.length = n := ⟨_, rfl⟩
  obtain ⟨y1, hy1⟩ : ∃ n, y.sl.length = n := ⟨_, rfl⟩
  obtain ⟨y2, hy2⟩ : ∃ n, y.se.length = n := ⟨_, rfl⟩
  obtain ⟨n, hn⟩ : ∃ n, Ls.length = n := ⟨_, rfl⟩
  have hxo : LfOk x := hx ▸ sumR_ok S0 N0 Ls
  have hyo : LfOk y := hy ▸ mendR_ok S0 N0 Ls m
  have q1 := Lib.hid (show ∀ W, Keeps Nil w W → Calls Try.prog 15 #[.agg #[.int .i64 S0, .int .i64 N0, .int .i64 T0], .slice a n cap] W (MadeOut W x x1 x2 er) from fun W hk => by
    rw [← hn]; exact (sum15_any S0 N0 T0 (hL.nil hk) hok (by omega)).mono (fun e w' h => h.made hx hx1 hx2 her))
  have q2 := Lib.hid (show ∀ W, Keeps Nil w W → Calls Try.prog 20 #[.agg #[.int .i64 S0, .int .i64 N0, .int .i64 T0], .slice a n cap] W (MadeOut W x x1 x2 er) from fun W hk => by
    rw [← hn]; exact (sum20_any S0 N0 T0 (hL.nil hk) hok hwf (by omega)).mono (fun e w' h => h.made hx hx1 hx2 her))
  have q3 := Lib.hid (show ∀ W, Keeps Nil w W → Calls Try.prog 21 #[.agg #[.int .i64 S0, .int .i64 N0, .int .i64 T0], .slice a n cap, .int .i64 m] W (MadeOut W y y1 y2 es) from fun W hk => by
    rw [← hn]; exact (mend21_any S0 N0 T0 m (hL.nil hk) hok hl hlc hc63).mono (fun e w' h => h.made hy hy1 hy2 hes))
  have q4 := Lib.hid (show ∀ W, Keeps Nil w W → Calls Try.prog 22 #[.agg #[.int .i64 S0, .int .i64 N0, .int .i64 T0], .slice a n cap, .int .i64 m] W (MadeOut W y y1 y2 es) from fun W hk => by
    rw [← hn]; exact (mend22_any S0 N0 T0 m (hL.nil hk) hok hwf hl).mono (fun e w' h => h.made hy hy1 hy2 hes))
  have q5 := Lib.hid (show ∀ (W : World) (sa ba sb bb : Option Addr) (sc bc sd bd : Nat), LfAt W sa ba x → LfAt W sb bb x → Calls Try.prog 16 #[.agg #[.slice sa x1 sc, .slice ba x2 bc], .agg #[.slice sb x1 sd, .slice bb x2 bd]] W fun e w' => e = .returned (.bool true) ∧ Keeps Nil W w' from fun W sa ba sb bb sc bc sd bd h1 h2 => by
    rw [← hx1, ← hx2]; exact same16 h1 h2 hxo)
  have q6 := Lib.hid (show ∀ (W : World) (sa ba sb bb : Option Addr) (sc bc sd bd : Nat), LfAt W sa ba y → LfAt W sb bb y → Calls Try.prog 16 #[.agg #[.slice sa y1 sc, .slice ba y2 bc], .agg #[.slice sb y1 sd, .slice bb y2 bd]] W fun e w' => e = .returned (.bool true) ∧ Keeps Nil W w' from fun W sa ba sb bb sc bc sd bd h1 h2 => by
    rw [← hy1, ← hy2]; exact same16 h1 h2 hyo)
  rw [hn]
  clear hL hok hwf hl hlc hc63 hx hy her hes hx1 hx2 hy1 hy2 hn hxo hyo
  go_enter Try.func6, Try.ntmps6
  go_wp2_with fail
  refine (awake9 _).mono ?_
  rintro e w1 ⟨rfl, hk1⟩
  have hb1 := hk1.heap (heap_alloc_new w (.cells #[.int .i64 S0, .int .i64 N0, .int .i64 T0] 27)) (fun h => h)
  have l0 := cell_of_heap hb1 0
  have l1 := cell_of_heap hb1 1
  have l2 := cell_of_heap hb1 2
  simp at l0 l1 l2
  have hb1' := Lib.hid hb1
  have k1 := Lib.hid (((Keeps.refl Nil w).alloc (.cells #[.int .i64 S0, .int .i64 N0, .int .i64 T0] 27)).trans hk1)
  clear hb1 hk1
  go_wp2_with fail
  refine (q1.out _ (by exact k1.out)).mono ?_
  rintro e w2 ⟨sa, sc, ba, bc, rfl, hA, hk2⟩
  have kx := hk2.alloc (.cells #[.slice sa x1 sc, .slice ba x2 bc] 35)
  have hbx := kx.heap hb1'.out (fun h => h)
  have l0 := cell_of_heap hbx 0
  have l1 := cell_of_heap hbx 1
  have l2 := cell_of_heap hbx 2
  simp at l0 l1 l2
  have hb2' := Lib.hid hbx
  have hX := Lib.hid (heap_alloc_new w2 (.cells #[.slice sa x1 sc, .slice ba x2 bc] 35))
  have hA2 := Lib.hid (hA.nil ((Keeps.refl Nil w2).alloc (.cells #[.slice sa x1 sc, .slice ba x2 bc] 35)))
  have k2 := Lib.hid (k1.out.trans kx)
  have hwl := lt_of_heap hbx
  clear hbx kx hk2 hA
  go_wp2_with fail
  refine (q2.out _ (by exact k2.out)).mono ?_
  rintro e w3 ⟨sb, sd, bb, bd, rfl, hB, hk3⟩
  have kx := hk3.alloc (.cells #[.slice sb x1 sd, .slice bb x2 bd] 35)
  have hbx := kx.heap hb2'.out (fun h => h)
  have l0 := cell_of_heap hbx 0
  have l1 := cell_of_heap hbx 1
  have l2 := cell_of_heap hbx 2
  simp at l0 l1 l2
  have hb3' := Lib.hid hbx
  have hY := Lib.hid (heap_alloc_new w3 (.cells #[.slice sb x1 sd, .slice bb x2 bd] 35))
  have hB3 := Lib.hid (hB.nil ((Keeps.refl Nil w3).alloc (.cells #[.slice sb x1 sd, .slice bb x2 bd] 35)))
  have hX3 := Lib.hid (kx.heap hX.out (fun h => h))
  have hA3 := Lib.hid (hA2.out.nil kx)
  have k3 := Lib.hid (k2.out.trans kx)
  clear hbx kx hk3 hB hX hA2
  go_wp2_with fail
  refine (q3.out _ (by exact k3.out)).mono ?_
  rintro e w4 ⟨se, sf, be, bf, rfl, hC, hk4⟩
  have kx := hk4.alloc (.cells #[.slice se y1 sf, .slice be y2 bf] 35)
  have hbx := kx.heap hb3'.out (fun h => h)
  have l0 := cell_of_heap hbx 0
  have l1 := cell_of_heap hbx 1
  have l2 := cell_of_heap hbx 2
  simp at l0 l1 l2
  have hb4' := Lib.hid hbx
  have hM := Lib.hid (heap_alloc_new w4 (.cells #[.slice se y1 sf, .slice be y2 bf] 35))
  have hC4 := Lib.hid (hC.nil ((Keeps.refl Nil w4).alloc (.cells #[.slice se y1 sf, .slice be y2 bf] 35)))
  have hX4 := Lib.hid (kx.heap hX3.out (fun h => h))
  have hA4 := Lib.hid (hA3.out.nil kx)
  have hY4 := Lib.hid (kx.heap hY.out (fun h => h))
  have hB4 := Lib.hid (hB3.out.nil kx)
  have k4 := Lib.hid (k3.out.trans kx)
  clear hbx kx hk4 hC hX3 hA3 hY hB3
  go_wp2_with fail
  refine (q4.out _ (by exact k4.out)).mono ?_
  rintro e w5 ⟨sg, sh, bg, bh, rfl, hD, hk5⟩
  have kx := hk5.alloc (.cells #[.slice sg y1 sh, .slice bg y2 bh] 35)
  have hN := heap_alloc_new w5 (.cells #[.slice sg y1 sh, .slice bg y2 bh] 35)
  have hD5 := Lib.hid (hD.nil ((Keeps.refl Nil w5).alloc (.cells #[.slice sg y1 sh, .slice bg y2 bh] 35)))
  have hX5 := kx.heap hX4.out (fun h => h)
  have hY5 := kx.heap hY4.out (fun h => h)
  have hM5 := kx.heap hM.out (fun h => h)
  have hA5 := Lib.hid (hA4.out.nil kx)
  have hB5 := Lib.hid (hB4.out.nil kx)
  have hC5 := Lib.hid (hC4.out.nil kx)
  have k5 := Lib.hid (k4.out.trans kx)
  obtain ⟨w6, hw6⟩ : ∃ w6, w5.alloc (.cells #[.slice sg y1 sh, .slice bg y2 bh] 35) = w6 := ⟨_, rfl⟩
  rw [hw6] at hN hX5 hY5 hM5 hD5 hA5 hB5 hC5 k5
  have e0 := cell_of_heap hX5 0
  have e1 := cell_of_heap hX5 1
  have e2 := cell_of_heap hY5 0
  have e3 := cell_of_heap hY5 1
  simp at e0 e1 e2 e3
  have hM5' := Lib.hid hM5
  have hN' := Lib.hid hN
  clear kx hk5 hD hX4 hA4 hY4 hB4 hM hC4 l0 l1 l2 hX5 hY5 hM5 hN
  go_wp2_with fail
  refine (q5.out _ _ _ _ _ _ _ _ _ hA5.out hB5.out).mono ?_
  rintro e w7 ⟨rfl, hk7⟩
  have hM7 := hk7.heap hM5'.out (fun h => h)
  have hN7 := hk7.heap hN'.out (fun h => h)
  have e0 := cell_of_heap hM7 0
  have e1 := cell_of_heap hM7 1
  have e2 := cell_of_heap hN7 0
  have e3 := cell_of_heap hN7 1
  simp at e0 e1 e2 e3
  have hC7 := Lib.hid (hC5.out.nil hk7)
  have hD7 := Lib.hid (hD5.out.nil hk7)
  have k7 := Lib.hid (k5.out.trans hk7)
  clear hM7 hN7 hk7
  go_wp2_with fail
  refine (q6.out _ _ _ _ _ _ _ _ _ hC7.out hD7.out).mono ?_
  rintro e w8 ⟨rfl, hk8⟩
  go_wp2_with fail
  go_ret
  exact ⟨rfl, k7.out.trans hk8⟩
end Go.Proofs.Ytdgcbjkopmlegaa
