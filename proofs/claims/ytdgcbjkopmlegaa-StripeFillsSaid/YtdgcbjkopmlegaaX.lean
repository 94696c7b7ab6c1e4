/- StripeFills: the walk -/
import Derived.Test.YtdgcbjkopmlegaaW2
import Derived.Test.YtdgcbjkopmlegaaW3
import Derived.Test.YtdgcbjkopmlegaaP2
import Derived.Deep.CutBlock
namespace Go.Proofs.Ytdgcbjkopmlegaa
open Go.RowKit

attribute [local go_sem ↓] Go.wp_at_zero Go.wp_at_succ

theorem OpenB.nil {w w' : World} {ob S n : Nat} {row width : Int} {k sg bg : Nat} {ds : List Nat} {x : Lf} (h : OpenB w ob S n row width k sg bg ds x) (hk : Keeps Nil w w') : OpenB w' ob S n row width k sg bg ds x := h.keeps hk (fun _ _ h => h)
/-- where the i-th leaf is looked for, before it is moved behind the parity -/
def plAt (p : Int) (i : Nat) : Int := if (i : Int) ≤ p then (i : Int) else (i : Int) + 1
def upAt (p v : Int) : Int := if v = p then v + 1 else v
theorem upAt_pl (p : Int) (i : Nat) : upAt p (plAt p i) = addAt p i := by
  unfold upAt plAt addAt
  by_cases h : (i : Int) ≤ p
  · rw [if_pos h]
    by_cases h2 : (i : Int) = p
    · rw [if_pos h2, if_pos (by omega)]
    · rw [if_neg h2, if_neg (by omega)]
  · rw [if_neg h, if_neg (by omega), if_pos (by omega)]
theorem addAt_next (p : Int) (i : Nat) : addAt p i + 1 = plAt p (i + 1) := by
  unfold plAt addAt
  by_cases h : p ≤ (i : Int)
  · rw [if_pos h, if_neg (by omega)]; omega
  · rw [if_neg h, if_pos (by omega)]; omega
theorem addAt_range (p : Int) (i : Nat) : 0 ≤ addAt p i ∧ addAt p i ≤ (i : Int) + 1 := by
  unfold addAt; split <;> omega
/-- a leaf with a slot too many -/
def badLf (n : Nat) : Lf := ⟨List.replicate (n + 1) sl0, List.replicate n []⟩
theorem bad_may (S n : Nat) : mayB S n (badLf n) = false := by
  have : (badLf n).sl.length = n + 1 := by simp [badLf]
  unfold mayB
  rw [this, decide_eq_false (by omega)]
  rfl
theorem bad_ok {n : Nat} (hn : n ≤ 8) : LfOk (badLf n) := ⟨by simp [badLf]; omega, by simp [badLf]; omega, fun i hi => by simp [badLf]⟩
theorem bad_at {w : World} {s1 s2 n : Nat} (h1 : w.heap[s1]? = some (.cells (recs slC (List.replicate (n + 1) sl0)).toArray 44)) (h2 : w.heap[s2]? = some (.cells (List.replicate n (.slice none 0 0)).toArray 45)) : LfAt w (some ⟨s1, 0, none⟩) (some ⟨s2, 0, none⟩) (badLf n) := by
  refine ⟨fun i hi => ?_, fun i hi => ?_⟩
  · have hi' : i < n + 1 := by simpa [badLf] using hi
    have hs : (List.replicate (n + 1) sl0)[i]? = some sl0 := by simp [hi']
    have e : (badLf n).sl[i] = sl0 := by simp [badLf]
    rw [e]
    have hg := fun j v (hj : j < 3) (hv : (slC sl0)[j]? = some v) => (by
      have := recs_get slC_len hj hs hv
      rw [cell_of_heap h1]
      simpa using this : w.cell? ⟨s1, i * 3 + j, none⟩ = some v)
    exact ⟨s1, 0, rfl, by rw [Nat.zero_add]; exact hg 0 _ (by decide) rfl, by rw [Nat.zero_add]; exact hg 1 _ (by decide) rfl, by rw [Nat.zero_add]; exact hg 2 _ (by decide) rfl⟩
  · have hi' : i < n := by simpa [badLf] using hi
    refine ⟨s2, 0, none, 0, rfl, ?_, ?_⟩
    · rw [cell_of_heap h2]
      simp [badLf, hi']
    · intro j hj
      simp [badLf] at hj

theorem laidZ {w2 w5 : World} {vb : Nat} {wa wb : Option Addr} {x : Lf} {Z : Nat → Prop} {c : Array Value} (hO : LfZ w5 wa wb x Z) (f5 : w5.heap[vb]? = some (.cells c 35)) (hc : c.size = 2) (hg : ∀ k, Z k → vb < k) (hk : Keeps Nil w2 w5) (hvb : w2.heap.size ≤ vb) (u v : Value) :
    ((w5.setCell ⟨vb, 0, none⟩ u).setCell ⟨vb, 1, none⟩ v).heap[vb]? = some (.cells #[u, v] 35) ∧ LfZ ((w5.setCell ⟨vb, 0, none⟩ u).setCell ⟨vb, 1, none⟩ v) wa wb x Z ∧ Keeps Nil w2 ((w5.setCell ⟨vb, 0, none⟩ u).setCell ⟨vb, 1, none⟩ v) := by
  refine ⟨?_, hO.keeps (((Keeps.refl (· = vb) w5).setCell (p := ⟨vb, 0, none⟩) (.inl rfl) u).setCell (p := ⟨vb, 1, none⟩) (.inl rfl) v) (fun k hk e => by have := hg k hk; omega), (hk.setCell (.inr hvb) _).setCell (.inr hvb) _⟩
  rw [heap_setCell_same (heap_setCell_same f5 0 u) 1 v]
  congr 2
  apply Array.ext
  · simp [hc]
  · intro i h1 h2
    have hi : i = 0 ∨ i = 1 := by simp at h2; omega
    rcases hi with rfl | rfl <;> simp [hc]
theorem LeavesAt.take {w : World} {a : Option Addr} {Ls : List Lf} (h : LeavesAt w a Ls) (k : Nat) : LeavesAt w a (Ls.take k) := fun i hi => by
  have h1 : i < Ls.length := by simp at hi; omega
  obtain ⟨b, off, sa, sc, ba, bc, e, c0, c1, c2⟩ := h i h1
  refine ⟨b, off, sa, sc, ba, bc, e, ?_, ?_, ?_⟩
  · rw [List.getElem_take]; exact c0
  · rw [List.getElem_take]; exact c1
  · rw [List.getElem_take]; exact c2

set_option maxHeartbeats 32000000 in
set_option maxRecDepth 100000 in
theorem fills7 {w : World} (S0 N0 T0 row width : Int) {a : Option Addr} {cap : Nat} {raw : List Lf} (hS0 : -9223372036854775808 ≤ S0) (hS1 : S0 ≤ 9223372036854775807) (hN0 : -9223372036854775808 ≤ N0) (hN1 : N0 ≤ 9223372036854775807) (hr0 : row ≤ 9223372036854775807) (hL : LeavesAt w a raw) (hok : RawOk raw) (hl : raw.length ≤ 9223372036854775807) :
    Calls Try.prog 7 #[.agg #[.int .i64 S0, .int .i64 N0, .int .i64 T0], .int .i64 row, .int .i64 width, .slice a raw.length cap] w fun e w' => e = .returned (.bool true) ∧ Keeps Nil w w' := by
  have hL' := Lib.hid hL
  have hok' := Lib.hid hok
  have hSm := Lib.hid (fun W => small12 (w := W) S0 N0 T0 hS0 hS1 hN0 hN1)
  obtain ⟨p, hp⟩ : ∃ p, plF row width = p := ⟨_, rfl⟩
  have hPl := Lib.hid (fun W => place11 row width W hr0)
  rw [hp] at hPl
  have hp' := Lib.hid hp
  clear hL hok hS0 hS1 hN0 hN1 hp
  go_enter Try.func7, Try.ntmps7
  go_wp2_with fail
  refine (awake9 _).mono ?_
  rintro e w1 ⟨rfl, hk1⟩
  have hb1 := hk1.heap (heap_alloc_new w (.cells #[.int .i64 S0, .int .i64 N0, .int .i64 T0] 27)) (fun h => h)
  have l0 := cell_of_heap hb1 0
  have l1 := cell_of_heap hb1 1
  have l2 := cell_of_heap hb1 2
  simp at l0 l1 l2
  have hb1' := Lib.hid hb1
  have k01 := Lib.hid (((Keeps.refl Nil w).alloc (.cells #[.int .i64 S0, .int .i64 N0, .int .i64 T0] 27)).trans hk1)
  clear hb1 hk1
  go_wp2_with fail
  refine (hSm.out _).mono ?_
  rintro e w2 ⟨S, n, p1, p2, p3, p4, rfl, hk2⟩
  have hb2 := hk2.heap hb1'.out (fun h => h)
  have l0 := cell_of_heap hb2 0
  have l1 := cell_of_heap hb2 1
  have l2 := cell_of_heap hb2 2
  simp at l0 l1 l2
  have lf0 := frozen_of_heap hb2 0
  have lf1 := frozen_of_heap hb2 1
  have lf2 := frozen_of_heap hb2 2
  have hwl := lt_of_heap hb2
  have hb2' := Lib.hid hb2
  have k02 := Lib.hid (k01.out.trans hk2)
  clear hb2 hk2
  go_wp2_with fail
  have hb3 := heap_setCell_same (heap_setCell_same (heap_setCell_same hb2'.out 0 (.int .i64 S)) 1 (.int .i64 n)) 2 (.int .i64 1)
  have kS := (((Keeps.refl (· = w.heap.size) w2).setCell (p := ⟨w.heap.size, 0, none⟩) (.inl rfl) (.int .i64 S)).setCell (p := ⟨w.heap.size, 1, none⟩) (.inl rfl) (.int .i64 n)).setCell (p := ⟨w.heap.size, 2, none⟩) (.inl rfl) (.int .i64 1)
  obtain ⟨w3, hw3⟩ : ∃ w3, ((w2.setCell ⟨w.heap.size, 0, none⟩ (.int .i64 S)).setCell ⟨w.heap.size, 1, none⟩ (.int .i64 n)).setCell ⟨w.heap.size, 2, none⟩ (.int .i64 1) = w3 := ⟨_, rfl⟩
  rw [hw3] at hb3 kS ⊢
  have k03 := Lib.hid (k02.out.trans' kS (fun j hj => .inr (by rw [hj]; exact Nat.le_refl _)))
  have hb3' : Hid (w3.heap[w.heap.size]? = some (.cells #[.int .i64 S, .int .i64 n, .int .i64 1] 27)) := hb3
  clear hw3 hb3 kS l0 l1 l2 lf0 lf1 lf2 hwl
  refine (new23 row width p1 (by omega) p3 (by omega) hr0 (w := w3)).mono ?_
  rintro e w4 (⟨hneg, rfl, hk4⟩ | ⟨hpos, ob, sg, bg, ds, rfl, hO4, hk4, hf4⟩)
  · rw [hp'.out] at hneg
    have d1 := decide_eq_true hneg
    have k04 := Lib.hid (k03.out.trans hk4)
    clear hneg hk4
    go_wp2_with fail
    refine (hPl.out _).mono ?_
    rintro e w5 ⟨rfl, rfl⟩
    go_wp2_with fail
    go_ret
    exact ⟨rfl, k04.out⟩
  · obtain ⟨hrow0, hw2, hw255, hpw⟩ := plF_range hpos
    rw [hp'.out] at hpos hpw
    have d1 : decide (p < 0) = false := decide_eq_false (by omega)
    have hb4 := hk4.heap hb3'.out (fun h => h)
    have l0 := cell_of_heap hb4 0
    have l1 := cell_of_heap hb4 1
    have l2 := cell_of_heap hb4 2
    simp at l0 l1 l2
    have hb4' := Lib.hid hb4
    have k04 := Lib.hid (k03.out.trans hk4)
    have hO4' := Lib.hid hO4
    have hf4' := Lib.hid (show ∀ q, oown ob sg bg ds q → w.heap.size < q ∧ q < w4.heap.size from fun q hq => ⟨by have := hf4 q hq; have := lt_of_heap hb3'.out; omega, hO4.lt hq⟩)
    clear hb4 hk4 hO4 hf4
    go_wp2_with fail
    refine (hPl.out _).mono ?_
    rintro e w4b ⟨rfl, rfl⟩
    go_wp2_with fail
    refine (right13n S n 1 p1 p2 p4 (hL'.out.nil k04.out) hok'.out hl).mono ?_
    rintro e w5 ⟨L, a1, cap1, Z, rfl, hOL, hR, hm12, hk5, hZn, han⟩
    have hOL' := Lib.hid hOL
    have hR' := Lib.hid hR
    have k05 := Lib.hid (k04.out.trans hk5)
    have hb5' := Lib.hid (hk5.heap hb4'.out (fun h => h))
    have hO5' := Lib.hid (hO4'.out.nil hk5)
    have hZn' := Lib.hid (show ∀ q, Z q → ¬ oown ob sg bg ds q from fun q hq e => by have := hZn q hq; have := (hf4'.out q e).2; omega)
    have han' := Lib.hid (show ∀ q, blk a1 = some q → ¬ oown ob sg bg ds q from fun q hq e => by have := han q hq; have := (hf4'.out q e).2; omega)
    have hwo' := Lib.hid (show ¬ oown ob sg bg ds w.heap.size from fun e => by have := (hf4'.out _ e).1; omega)
    clear hOL hR hk5 hZn han l0 l1 l2
    obtain ⟨m, hm⟩ : ∃ m, L.length = m := ⟨_, rfl⟩
    rw [hm] at hm12
    rw [hm]
    have hm' := Lib.hid hm
    obtain ⟨W1, hW1⟩ : ∃ W1 : Nat, width = (W1 : Int) + 1 := ⟨(width - 1).toNat, by omega⟩
    have hW1' := Lib.hid hW1
    have hw2' := Lib.hid hw2
    have hw255' := Lib.hid hw255
    have hpw' := Lib.hid hpw
    have hpos' := Lib.hid hpos
    have y1 : wrap64 (width - 1) = (W1 : Int) := by unfold wrap64; omega
    obtain ⟨z2, hz2⟩ : ∃ z2, width - 2 = z2 := ⟨_, rfl⟩
    have y2 : wrap64 (width - 2) = z2 := by unfold wrap64; omega
    have hz2' := Lib.hid hz2
    have hpv := Lib.hid (And.intro hpos (show p ≤ 255 by omega))
    clear hm hW1 hw2 hw255 hpw hrow0 hz2 hpos d1
    go_wp2_with fail
    go_loopw [14, 15, 16, 17, 18, 19, 20, 21, 22, 23, 24, 25] (fun v14 c _ _ _ _ _ _ _ _ _ _ wx => ∃ (i : Nat) (v : Int), i ≤ m ∧ c = .int .i64 i ∧ v14 = .int .i64 v ∧ (0 ≤ v ∧ v ≤ 300) ∧ (i < W1 → v = plAt p i) ∧ OpenB wx ob S n row width (min i W1) sg bg ds (sumL S n ((L.map (·.x)).take (min i W1))) ∧ Keeps (oown ob sg bg ds) w5 wx) (fun _ c _ _ _ _ _ _ _ _ _ _ _ => m - (intOf c).toNat)
    case atStart => exact ⟨0, 0, Nat.zero_le _, rfl, rfl, ⟨by omega, by omega⟩, fun _ => by have := hpv.out.1; unfold plAt; rw [if_pos (by simpa using this)]; rfl, by rw [Nat.zero_min]; exact hO5'.out, Keeps.refl _ _⟩
    case round =>
      obtain ⟨i, v, hi, rfl, rfl, hv, hvp, hO, hK⟩ := hrel
      have hvp' := Lib.hid hvp
      have hO' := Lib.hid hO
      have hK' := Lib.hid hK
      have hv' := Lib.hid hv
      have hbr := Lib.hid (hK.heap hb5'.out hwo'.out)
      clear hvp hO hK hv
      by_cases hlt : i < m
      · go_upto_if 69 with (fail)
        obtain ⟨v', hvv⟩ : ∃ v', upAt p v = v' := ⟨_, rfl⟩
        have hvv' := Lib.hid hvv
        go_cut [14] (fun v14 wx => v14 = .int .i64 v' ∧ wx = wr)
        case first =>
          have x1 : wrap64 (v + 1) = v + 1 := by have := hv'.out; unfold wrap64; omega
          by_cases hvq : v = p
          · have e1 : (v == p) = true := by simpa using hvq
            have e2 := Lib.hid (show v + 1 = v' by rw [← hvv]; unfold upAt; rw [if_pos hvq])
            clear hvv hvq
            go_wp2_with fail
            go_meet
            exact ⟨by first | rw [x1, e2.out] | rw [e2.out], rfl⟩
          · have e1 : (v == p) = false := by simpa using hvq
            have e2 := Lib.hid (show v = v' by rw [← hvv]; unfold upAt; rw [if_neg hvq])
            clear hvv hvq
            go_wp2_with fail
            go_meet
            exact ⟨by first | rw [x1, e2.out] | rw [e2.out], rfl⟩
        case rest =>
          obtain ⟨rfl, rfl⟩ := hcut
          have hOLr := hOL'.out.keeps hK'.out (fun q hq => hq.elim (hZn'.out q) (han'.out q))
          obtain ⟨y, hL0⟩ : ∃ y, L[i]? = some y := ⟨L[i]'(by rw [hm'.out]; omega), List.getElem?_eq_getElem _⟩
          obtain ⟨yx, ysa, ysc, yba, ybc⟩ := y
          have hyL : (⟨yx, ysa, ysc, yba, ybc⟩ : LH) ∈ L := List.mem_of_getElem? hL0
          have RY := hR'.out _ hyL
          obtain ⟨g, hga, hgl, -, hc⟩ := hOLr.row.cell lhC_len hL0
          have c0 := hc 0 _ (by decide) rfl
          have c1 := hc 1 _ (by decide) rfl
          rw [Nat.add_zero] at c0
          simp only at RY c0 c1
          rw [RY.l1] at c0
          rw [RY.l2] at c1
          have RY' := Lib.hid RY
          have hlf := Lib.hid (show LfZ wc ysa yba yx Z from hOLr.lf _ hyL)
          have hxi := Lib.hid (show (L.map (·.x))[i]? = some yx by rw [List.getElem?_map, hL0]; rfl)
          have hOLr' := Lib.hid hOLr
          have g1 : (0 : Int) ≤ (i : Int) := by omega
          have g2 : (i : Int) < (m : Int) := by omega
          subst hga
          clear hc hOLr RY hyL hL0
          by_cases hful : W1 ≤ i
          · as_aux_lemma =>
              have hmin : min i W1 = W1 := by omega
              have hO2 := hO'.out
              rw [hmin] at hO2
              have hA := Lib.hid (add17_full (sc := ysc) (bc := ybc) hO2 hw2'.out hw255'.out (by have := hW1'.out; omega) hlf.out.at (RY'.out.ok (by omega) (by omega)) RY'.out.may)
              have hLt := Lib.hid (show ∀ W, Keeps Nil wc W → Calls Try.prog 19 #[.pointer (some ⟨ob, 0, none⟩)] W fun e w' => e = .returned (.int .i64 0) ∧ Keeps Nil W w' from fun W hk => by
                have := left19x (hO2.nil hk) hw2'.out hw255'.out (by have := hW1'.out; have := hw255'.out; omega)
                rw [show width - 1 - (W1 : Int) = 0 by have := hW1'.out; omega] at this
                exact this)
              have t1 : W1 ≤ i := hful
              clear hO2 hful hvv
              go_wp2_with fail
              refine (hA.out).mono ?_
              rintro e w6 ⟨rfl, hk6⟩
              have hk6' := Lib.hid hk6
              clear hk6 c0 c1
              go_wp2_with fail
              refine (hLt.out _ hk6'.out).mono ?_
              rintro e w7 ⟨rfl, hk7⟩
              have hk7' := Lib.hid (hk6'.out.trans hk7)
              clear hk7
              go_wp2_with fail
              go_roundw
              case rel =>
                have e1 : min (i + 1) W1 = min i W1 := by omega
                refine ⟨i + 1, v', by omega, by go_num, rfl, ?_, fun h => by omega, by rw [e1]; exact hO'.out.nil hk7'.out, hK'.out.trans (hk7'.out.mono (fun _ h => h.elim))⟩
                have h1 := hvv'.out
                have h2 := hv'.out
                have h3 := hpv.out
                unfold upAt at h1
                split at h1 <;> omega
              case measure => simp [intOf]; omega
          · as_aux_lemma =>
              have hmin : min i W1 = i := by omega
              have hO2 := hO'.out
              rw [hmin] at hO2
              obtain ⟨X1, hX1⟩ : ∃ X1, sumL S n ((L.map (·.x)).take (i + 1)) = X1 := ⟨_, rfl⟩
              have hX1' := Lib.hid hX1
              have hjoin : joinLf (sumL S n ((L.map (·.x)).take i)) yx = X1 := by
                have hil : i < (L.map (·.x)).length := by rw [List.length_map, hm'.out]; exact hlt
                have e : (L.map (·.x))[i] = yx := by
                  have := hxi.out
                  rw [List.getElem?_eq_getElem hil] at this
                  exact Option.some.inj this
                have := sumL_step (S := S) (n := n) hil
                rw [e] at this
                rw [this, hX1]
              have hvA : addAt p i = v' := by rw [← upAt_pl, ← hvp'.out (by omega)]; exact hvv'.out
              have hRx : Right S n X1 := by
                rw [← hX1]
                refine sumL_right (fun z hz => ?_)
                obtain ⟨h, hh, rfl⟩ := List.mem_map.1 (List.mem_of_mem_take hz)
                exact hR'.out h hh
              have hRx' := Lib.hid hRx
              have hA := add17_ok (sc := ysc) (bc := ybc) (by omega) (by omega) hO2 hw2'.out hw255'.out hr0 (by have := hW1'.out; omega) hlf.out (fun q hq => hZn'.out q hq) RY'.out
              rw [hp'.out, hvA, hjoin] at hA
              have hA' := Lib.hid hA
              obtain ⟨z3, hz3⟩ : ∃ z3, z2 - (i : Int) = z3 := ⟨_, rfl⟩
              have y3 : wrap64 (z2 - (i : Int)) = z3 := by have := hz2'.out; have := hw2'.out; have := hw255'.out; unfold wrap64; omega
              have hLt := Lib.hid (show ∀ W, OpenB W ob S n row width (i + 1) sg bg ds X1 → Calls Try.prog 19 #[.pointer (some ⟨ob, 0, none⟩)] W fun e w' => e = .returned (.int .i64 z3) ∧ Keeps Nil W w' from fun W hW => by
                have := left19x hW hw2'.out hw255'.out (by omega)
                rw [show width - 1 - ((i + 1 : Nat) : Int) = z3 by have := hz2'.out; omega] at this
                exact this)
              have hsame := Lib.hid (show ∀ (W : World) (ua ub va vb : Option Addr) (uc ud vc vd : Nat), LfAt W ua ub X1 → LfAt W va vb X1 → Calls Try.prog 16 #[.agg #[.slice ua n uc, .slice ub n ud], .agg #[.slice va n vc, .slice vb n vd]] W fun e w' => e = .returned (.bool true) ∧ Keeps Nil W w' from fun W ua ub va vb uc ud vc vd h1 h2 => by
                have := same16 (sc := uc) (bc := ud) (sd := vc) (bd := vd) h1 h2 (hRx.ok (by omega) (by omega))
                rw [hRx.l1, hRx.l2] at this
                exact this)
              have hs20 := Lib.hid (show ∀ W, Keeps (oown ob sg bg ds) wc W → Calls Try.prog 20 #[.agg #[.int .i64 S, .int .i64 n, .int .i64 1], .slice (some ⟨g, 0, none⟩) (i + 1) cap1] W (RefOut W n (some X1)) from fun W hk => by
                have h1 := ((hOLr'.out.keeps hk (fun q hq => hq.elim (hZn'.out q) (han'.out q))).leaves).take (i + 1)
                rw [← hX1]
                exact sum20_right p1 (by omega) p3 (by omega) W _ cap1 (i + 1) _ h1 (fun z hz => by
                  obtain ⟨h, hh, rfl⟩ := List.mem_map.1 (List.mem_of_mem_take hz)
                  exact hR'.out h hh) (by rw [List.length_take, List.length_map, hm'.out]; omega) (by omega))
              have t1 : ¬ W1 ≤ i := hful
              have hcap : m ≤ cap1 := by have := hOLr'.out.row.cap_le; rw [hm'.out] at this; exact this
              clear hO2 hful hvv hX1 hjoin hvA hRx hA hz3 hmin
              go_wp2_with fail
              refine (hA'.out).mono ?_
              rintro e w6 ⟨rfl, hO6, hk6⟩
              have hO6' := Lib.hid hO6
              have hk6' := Lib.hid hk6
              have hb6' := Lib.hid (hk6.heap hbr.out hwo'.out)
              have hPa := par18x p1 (by omega) p3 (by omega) hO6 hr0
              rw [hp'.out] at hPa
              have hPa' := Lib.hid hPa
              clear hO6 hk6 hPa c0 c1
              go_wp2_with fail
              refine (hPa'.out).mono ?_
              rintro e w7 ⟨sp, bp, dp, rfl, hP7, hk7, hf7⟩
              have hP8' := Lib.hid (hP7.nil ((Keeps.refl Nil w7).alloc (.cells #[.slice (some ⟨sp, 0, none⟩) n n, .slice (some ⟨bp, 0, none⟩) n n] 35)))
              have hk68 := Lib.hid (hk7.alloc (.cells #[.slice (some ⟨sp, 0, none⟩) n n, .slice (some ⟨bp, 0, none⟩) n n] 35))
              have hpc := Lib.hid (heap_alloc_new w7 (.cells #[.slice (some ⟨sp, 0, none⟩) n n, .slice (some ⟨bp, 0, none⟩) n n] 35))
              have hf7' := Lib.hid (show ∀ q, lown sp bp dp q → w6.heap.size ≤ q ∧ q < w7.heap.size from fun q hq => ⟨hf7 q hq, hP7.lt hq⟩)
              have hs67 := hk7.size
              clear hP7 hk7 hf7
              go_wp2_with fail
              obtain ⟨w8, hw8⟩ : ∃ w8, w7.alloc (.cells #[.slice (some ⟨sp, 0, none⟩) n n, .slice (some ⟨bp, 0, none⟩) n n] 35) = w8 := ⟨_, rfl⟩
              have hs8 : w8.heap.size = w7.heap.size + 1 := by rw [← hw8]; simp
              rw [hw8] at hP8' hk68 hpc ⊢
              have hs8' := Lib.hid hs8
              clear hw8 hs8
              have hb8 := hk68.out.heap hb6'.out (fun h => h)
              have l0 := cell_of_heap hb8 0
              have l1 := cell_of_heap hb8 1
              have l2 := cell_of_heap hb8 2
              simp at l0 l1 l2
              have hb8' := Lib.hid hb8
              have hLC := Lib.hid (show ∀ W, Keeps Nil w8 W → W.cell? ⟨w.heap.size, 0, none⟩ = some (.int .i64 S) ∧ W.cell? ⟨w.heap.size, 1, none⟩ = some (.int .i64 n) ∧ W.cell? ⟨w.heap.size, 2, none⟩ = some (.int .i64 1) from fun W hk => ⟨hk.cell l0 (fun h => h), hk.cell l1 (fun h => h), hk.cell l2 (fun h => h)⟩)
              clear hb8 l0 l1 l2
              go_upto_region 24 with (fail)
              go_cut [21, 22] (fun v21 _ wx => ∃ vb : Nat, ∃ wa wb : Option Addr, ∃ wca wcb : Nat, v21 = .pointer (some ⟨vb, 0, none⟩) ∧ wx.heap[vb]? = some (.cells #[.slice wa n wca, .slice wb n wcb] 35) ∧ (∃ Z2, LfZ wx wa wb X1 Z2 ∧ ∀ q, Z2 q → w8.heap.size ≤ q) ∧ Keeps Nil w8 wx ∧ w8.heap.size ≤ vb)
              case first =>
                have q0 : (0 : Int) ≤ (i : Int) + 1 := by omega
                have q1 : (i : Int) + 1 ≤ (m : Int) := by omega
                have q2 : ((i : Int) + 1).toNat = i + 1 := by omega
                have q3 : (i : Int) + 1 ≤ (cap1 : Int) := by omega
                have q4 : IntKind.i64.wrap ((i : Int) + 1) = (i : Int) + 1 := by rw [IntKind.wrap_i64]; omega
                have hcl : Hid (Keeps (oown ob sg bg ds) wc w8) := hk6'.out.trans (hk68.out.mono (fun _ h => h.elim))
                go_region_held3 (fun W => W.cell? ⟨w.heap.size, 0, none⟩ = some (.int .i64 S) ∧ W.cell? ⟨w.heap.size, 1, none⟩ = some (.int .i64 n) ∧ W.cell? ⟨w.heap.size, 2, none⟩ = some (.int .i64 1)) ((refine hLC.out _ ?_; (repeat (first | exact Keeps.refl _ _ | exact k9'.out | with_reducible refine Keeps.drew ?_ | with_reducible refine Keeps.alloc ?_ _ | refine Keeps.setCell (p := ⟨_, _, none⟩) ?_ (.inr (by simp; done)) _)))) ((go_at_call 20; refine (hs20.out _ (hcl.out.trans ?_)).mono ?_; (repeat (first | exact Keeps.refl _ _ | with_reducible refine Keeps.drew ?_ | with_reducible refine Keeps.alloc ?_ _)); rintro e w9 (⟨he, _⟩ | ⟨x9, wa, wca, wb, wcb, Z9, hx9, rfl, hZ9, hf9, _, _, hk9⟩); (cases he); (have hz9 := hk9.size); (have k9' : Hid (Keeps Nil w8 w9) := Keeps.trans (by repeat (first | exact Keeps.refl _ _ | with_reducible refine Keeps.drew ?_ | with_reducible refine Keeps.alloc ?_ _)) hk9); (simp at hz9 hf9); cases hx9; have hZ9' := Lib.hid hZ9; have hf9' := Lib.hid hf9; (first | (have f5 := hk9.heap (b := w8.heap.size) (show _ = some (.cells #[.slice none 0 0, .slice none 0 0] 35) from (by first | exact hp_at rfl | exact hp_at0 rfl)) (fun h => h); have v0 := cell_of_heap f5 0; have v1 := cell_of_heap f5 1; simp at v0 v1; have vf0 := frozen_of_heap f5 0; have vf1 := frozen_of_heap f5 1; have f5' := Lib.hid f5; clear f5) | skip); clear hZ9 hf9 hk9))
                all_goals
                  go_wp2_with fail
                  go_meet
                · exact ⟨w9.heap.size, wa, wb, wca, wcb, rfl, heap_alloc_new w9 _, ⟨Z9, hZ9'.out.keeps ((Keeps.refl Nil w9).alloc _) (fun _ _ h => h), fun q hq => by have := hf9'.out q hq; omega⟩, k9'.out.alloc _, by omega⟩
                · obtain ⟨g1, g2, g3⟩ := laidZ hZ9'.out f5'.out rfl (fun q hq => by have := hf9'.out q hq; omega) k9'.out (by omega) (.slice wa n wca) (.slice wb n wcb)
                  exact ⟨w8.heap.size, wa, wb, wca, wcb, rfl, g1, ⟨Z9, g2, fun q hq => by have := hf9'.out q hq; omega⟩, g3, by omega⟩
              case rest => as_aux_lemma =>
                  obtain ⟨w9, rfl⟩ : ∃ w9 : World, w9 = wc := ⟨_, rfl⟩
                  obtain ⟨vb, wa, wb, wca, wcb, rfl, hvh, ⟨Z2, hZ2, hf2⟩, hk9, hvb⟩ := hcut
                  have hZ2' := Lib.hid hZ2
                  have hf2' := Lib.hid hf2
                  have hvh' := Lib.hid hvh
                  have hk9' := Lib.hid hk9
                  have hpc9 := hk9.heap hpc.out (fun h => h)
                  have hpc9' := Lib.hid hpc9
                  have hP9' := Lib.hid (hP8'.out.nil hk9)
                  have k69 := Lib.hid (hk68.out.trans hk9)
                  have hO9' := Lib.hid (hO6'.out.nil k69.out)
                  have c0 := cell_of_heap hpc9 0
                  have c1 := cell_of_heap hpc9 1
                  have e0 := cell_of_heap hvh 0
                  have e1 := cell_of_heap hvh 1
                  simp at c0 c1 e0 e1
                  clear hZ2 hf2 hvh hk9 hpc9
                  go_wp2_with fail
                  refine (hsame.out _ _ _ _ _ _ _ _ _ hP9'.out.at hZ2'.out.at).mono ?_
                  rintro e w10 ⟨rfl, hk10⟩
                  have k610 := Lib.hid (k69.out.trans hk10)
                  have k910 := Lib.hid hk10
                  clear hk10 c0 c1 e0 e1
                  go_wp2_with fail
                  refine (hLt.out _ (hO6'.out.nil k610.out)).mono ?_
                  rintro e w11 ⟨rfl, hk11⟩
                  have k611 := Lib.hid (k610.out.trans hk11)
                  have k911 := Lib.hid (k910.out.trans hk11)
                  clear hk11
                  go_upto_region 27 with (fail)
                  have hP11 := hP9'.out.nil k911.out
                  obtain ⟨d0, hd0⟩ : ∃ d0, dp[0]? = some d0 := ⟨dp[0]'(by rw [hP11.n1, hRx'.out.l1]; omega), List.getElem?_eq_getElem _⟩
                  obtain ⟨r0, hr1, hr2, hr3⟩ := hP11.da 0 d0 hd0
                  have hdm : lown sp bp dp d0 := .inr (.inr (List.mem_of_getElem? hd0))
                  have hds : d0 ≠ sp := by
                    rintro rfl
                    rw [hP11.sl] at hr3
                    injection hr3 with h1; injection h1 with _ h2 _; exact absurd h2 (by decide)
                  have hdr := (hf7'.out d0 hdm)
                  have hsr := (hf7'.out sp (.inl rfl))
                  have hpc11 := k911.out.heap hpc9'.out (fun h => h)
                  have hvh11 := k911.out.heap hvh'.out (fun h => h)
                  have hO11 := Lib.hid (hO6'.out.nil k611.out)
                  have hZ11 := Lib.hid (hZ2'.out.keeps k911.out (fun _ _ h => h))
                  have hsl11 := hP11.sl
                  obtain ⟨s0, hs0⟩ : ∃ s0, X1.sl[0]? = some s0 := ⟨X1.sl[0]'(by rw [hRx'.out.l1]; omega), List.getElem?_eq_getElem _⟩
                  obtain ⟨u0, _, _⟩ := hP11.slot hs0
                  have c1 := cell_of_heap hpc11 1
                  have c0 := cell_of_heap hpc11 0
                  simp at c0 c1
                  have e1 := hP11.row hd0
                  have e2 := cell_of_heap hr3 0
                  obtain ⟨b0, hb0'⟩ : ∃ b0, w11.cell? ⟨d0, 0, none⟩ = some (.int .u8 b0) := by
                    rw [e2]
                    have h0 : 0 < r0.length := by omega
                    exact ⟨r0[0], by simp [dcells, h0]⟩
                  have ef := frozen_of_heap hr3 0
                  have el := lt_of_heap hr3
                  have g3 : (0 : Int) < (n : Int) := by omega
                  have g4 : (0 : Int) < (S : Int) := by omega
                  have hpc11' := Lib.hid hpc11
                  have hvh11' := Lib.hid hvh11
                  have hsl11' := Lib.hid hsl11
                  have c0' := Lib.hid c0
                  have u0' := Lib.hid u0
                  have hdr' := Lib.hid hdr
                  have hsr' := Lib.hid hsr
                  have hds' := Lib.hid hds
                  have hs8'' := hs8'.out
                  clear hP11 hr1 hr2 hr3 hd0 hdm hpc11 hvh11 hsl11 hs0 e2 c0 u0
                  go_cut [18] (fun v18 wx => v18 = .pointer (some ⟨w7.heap.size, 0, none⟩) ∧ Keeps (· = d0) w11 wx)
                  case first =>
                    go_region_with (fail)
                    all_goals
                      go_wp2_with fail
                      go_meet
                      exact ⟨rfl, by repeat (first | exact Keeps.refl _ _ | with_reducible refine Keeps.drew ?_ | refine Keeps.setCell (p := ⟨_, _, none⟩) ?_ (.inl (by rfl)) _)⟩
                  case rest => as_aux_lemma =>
                      obtain ⟨w12, rfl⟩ : ∃ w12 : World, w12 = wc := ⟨_, rfl⟩
                      obtain ⟨rfl, hk12⟩ := hcut
                      have hk12' := Lib.hid hk12
                      have hpc12 := hk12.heap hpc11'.out (by have := hdr'.out; omega)
                      have hsl12 := hk12.heap hsl11'.out (fun e => hds'.out e.symm)
                      have c0 := cell_of_heap hpc12 0
                      simp at c0
                      have u0 := hk12.cell u0'.out (fun e => hds'.out e.symm)
                      have uf := frozen_of_heap hsl12 0
                      have ul := lt_of_heap hsl12
                      clear hk12 hpc12 hsl12 c1 e1 hb0' ef el
                      go_upto_region 28 with (fail)
                      go_cut [18] (fun v18 wx => v18 = .pointer (some ⟨w7.heap.size, 0, none⟩) ∧ Keeps (· = sp) w12 wx)
                      case first =>
                        simp only [Nat.zero_mul] at u0
                        go_region_with (fail)
                        all_goals
                          go_wp2_with fail
                          go_meet
                          exact ⟨rfl, by repeat (first | exact Keeps.refl _ _ | with_reducible refine Keeps.drew ?_ | refine Keeps.setCell (p := ⟨_, _, none⟩) ?_ (.inl (by rfl)) _)⟩
                      case rest => as_aux_lemma =>
                          obtain ⟨w13, rfl⟩ : ∃ w13 : World, w13 = wc := ⟨_, rfl⟩
                          obtain ⟨rfl, hk13⟩ := hcut
                          have kds : Keeps (fun q => q = d0 ∨ q = sp) w11 w13 := (hk12'.out.mono (fun _ h => .inl h)).trans (hk13.mono (fun _ h => .inr h))
                          have hnew : ∀ q, oown ob sg bg ds q → ¬ (q = d0 ∨ q = sp) := fun q hq e => by
                            have h1 := hO6'.out.lt hq
                            have := hdr'.out; have := hsr'.out; omega
                          have hO13 := Lib.hid (hO11.out.keeps kds hnew)
                          have hZ13 := Lib.hid (hZ11.out.keeps kds (fun q hq e => by have := hf2'.out q hq; have := hdr'.out; have := hsr'.out; omega))
                          have hvh13 := Lib.hid (kds.heap hvh11'.out (by have := hdr'.out; have := hsr'.out; omega))
                          have k613 := Lib.hid (k611.out.trans' kds (fun q hq => .inr (by have := hdr'.out; have := hsr'.out; omega)))
                          have hPa := par18x p1 (by omega) p3 (by omega) hO13.out hr0
                          rw [hp'.out] at hPa
                          have hPb := Lib.hid hPa
                          clear hk13 kds hnew c0 u0 uf ul hPa
                          go_wp2_with fail
                          refine (hPb.out).mono ?_
                          rintro e w14 ⟨sq, bq, dq, rfl, hQ14, hk14, hf14⟩
                          have kq := hk14.alloc (.cells #[.slice (some ⟨sq, 0, none⟩) n n, .slice (some ⟨bq, 0, none⟩) n n] 35)
                          have hQ15 := Lib.hid (hQ14.nil ((Keeps.refl Nil w14).alloc (.cells #[.slice (some ⟨sq, 0, none⟩) n n, .slice (some ⟨bq, 0, none⟩) n n] 35)))
                          have hZ15 := Lib.hid (hZ13.out.keeps kq (fun _ _ h => h))
                          have hvh15 := kq.heap hvh13.out (fun h => h)
                          have k615 := Lib.hid (k613.out.trans kq)
                          have e0 := cell_of_heap hvh15 0
                          have e1 := cell_of_heap hvh15 1
                          simp at e0 e1
                          clear hQ14 hk14 hf14 kq hvh15
                          go_wp2_with fail
                          refine (hsame.out _ _ _ _ _ _ _ _ _ hQ15.out.at hZ15.out.at).mono ?_
                          rintro e w16 ⟨rfl, hk16⟩
                          have k616 := Lib.hid (k615.out.trans hk16)
                          clear hk16 e0 e1
                          go_wp2_with fail
                          go_roundw
                          case rel =>
                            have h1 := hvv'.out
                            have h2 := hvp'.out (by omega)
                            have h3 : addAt p i = v' := by rw [← upAt_pl, ← h2]; exact h1
                            have h4 := addAt_range p i
                            have e1 : min (i + 1) W1 = i + 1 := by omega
                            refine ⟨i + 1, v' + 1, by omega, by go_num, by (have e5 : wrap64 (v' + 1) = v' + 1 := by unfold wrap64; omega); rw [e5], ⟨by omega, by omega⟩, fun _ => by rw [← h3]; exact addAt_next p i, ?_, hK'.out.trans (hk6'.out.trans (k616.out.mono (fun _ h => h.elim)))⟩
                            rw [e1, hX1'.out]
                            exact hO6'.out.nil k616.out
                          case measure => simp [intOf]; omega
      · as_aux_lemma =>
          obtain rfl : i = m := by omega
          have l0 := cell_of_heap hbr.out 0
          have l1 := cell_of_heap hbr.out 1
          have l2 := cell_of_heap hbr.out 2
          simp at l0 l1 l2
          have hLC := Lib.hid (show ∀ W, Keeps Nil wr W → W.cell? ⟨w.heap.size, 1, none⟩ = some (.int .i64 n) from fun W hk => hk.cell l1 (fun h => h))
          have m32 := fun W => make32 (n + 1) (by omega) W
          rw [show ((n + 1 : Nat) : Int) = (n : Int) + 1 by omega] at m32
          have m33 := make33 n (by omega)
          have x1 : IntKind.i64.wrap ((n : Int) + 1) = (n : Int) + 1 := by rw [IntKind.wrap_i64]; omega
          clear l0 l1 l2
          go_upto_region 33 with (fail)
          go_cut [26] (fun v26 wx => ∃ tb s1 s2 : Nat, v26 = .pointer (some ⟨tb, 0, none⟩) ∧ wx.heap[tb]? = some (.cells #[.slice (some ⟨s1, 0, none⟩) (n + 1) (n + 1), .slice (some ⟨s2, 0, none⟩) n n] 35) ∧ wx.heap[s1]? = some (.cells (recs slC (List.replicate (n + 1) sl0)).toArray 44) ∧ wx.heap[s2]? = some (.cells (List.replicate n (.slice none 0 0)).toArray 45) ∧ Keeps Nil wr wx)
          case first =>
            go_region_held3 (fun W => W.cell? ⟨w.heap.size, 1, none⟩ = some (.int .i64 n)) ((refine hLC.out _ ?_; (repeat (first | exact Keeps.refl _ _ | with_reducible refine Keeps.drew ?_ | with_reducible refine Keeps.alloc ?_ _ | refine Keeps.setCell (p := ⟨_, _, none⟩) ?_ (.inr (by simp; done)) _)))) (fail)
            all_goals
              go_wp2_with fail
              go_meet
            all_goals
              as_aux_lemma =>
              first
              | (refine ⟨_, wr.heap.size, wr.heap.size + 1, rfl, ?_, ?_, ?_, ?_⟩ <;> (first | exact h3a rfl | exact h3b rfl | exact h3c rfl | exact ((((Keeps.refl Nil wr).alloc _).alloc _).alloc _).drew | exact (((Keeps.refl Nil wr).alloc _).alloc _).alloc _))
              | (refine ⟨_, wr.heap.size, wr.heap.size + 1 + 1, rfl, ?_, ?_, ?_, ?_⟩ <;> (first | exact h3a rfl | exact h3b rfl | exact h3c rfl | exact ((((Keeps.refl Nil wr).alloc _).alloc _).alloc _).drew | exact (((Keeps.refl Nil wr).alloc _).alloc _).alloc _))
              | (refine ⟨_, wr.heap.size + 1, wr.heap.size, rfl, ?_, ?_, ?_, ?_⟩ <;> (first | exact h3a rfl | exact h3b rfl | exact h3c rfl | exact ((((Keeps.refl Nil wr).alloc _).alloc _).alloc _).drew | exact (((Keeps.refl Nil wr).alloc _).alloc _).alloc _))
              | (refine ⟨_, wr.heap.size + 1, wr.heap.size + 1 + 1, rfl, ?_, ?_, ?_, ?_⟩ <;> (first | exact h3a rfl | exact h3b rfl | exact h3c rfl | exact ((((Keeps.refl Nil wr).alloc _).alloc _).alloc _).drew | exact (((Keeps.refl Nil wr).alloc _).alloc _).alloc _))
              | (refine ⟨_, wr.heap.size + 1 + 1, wr.heap.size, rfl, ?_, ?_, ?_, ?_⟩ <;> (first | exact h3a rfl | exact h3b rfl | exact h3c rfl | exact ((((Keeps.refl Nil wr).alloc _).alloc _).alloc _).drew | exact (((Keeps.refl Nil wr).alloc _).alloc _).alloc _))
              | (refine ⟨_, wr.heap.size + 1 + 1, wr.heap.size + 1, rfl, ?_, ?_, ?_, ?_⟩ <;> (first | exact h3a rfl | exact h3b rfl | exact h3c rfl | exact ((((Keeps.refl Nil wr).alloc _).alloc _).alloc _).drew | exact (((Keeps.refl Nil wr).alloc _).alloc _).alloc _))
          case rest =>
            obtain ⟨w9, rfl⟩ : ∃ w9 : World, w9 = wc := ⟨_, rfl⟩
            obtain ⟨tb, s1, s2, rfl, h1, h2, h3, hk9⟩ := hcut
            clear x1 m32 m33
            have c0 := cell_of_heap h1 0
            have c1 := cell_of_heap h1 1
            simp at c0 c1
            have hA := add17_bad (sc := n + 1) (bc := n) (hO'.out.nil hk9) (bad_at h2 h3) (bad_ok (Nat.le_trans p4 (by decide))) (bad_may S n)
            rw [show (badLf n).sl.length = n + 1 by simp [badLf], show (badLf n).se.length = n by simp [badLf]] at hA
            have hA' := Lib.hid hA
            have hk9' := Lib.hid hk9
            clear h1 h2 h3 hA hk9
            go_wp2_with fail
            refine (hA'.out).mono ?_
            rintro e w10 ⟨rfl, hk10⟩
            go_wp2_with fail
            go_ret
            exact ⟨rfl, (k05.out.trans' hK'.out (fun q hq => .inr (by have := (hf4'.out q hq).1; omega))).trans (hk9'.out.trans hk10)⟩
end Go.Proofs.Ytdgcbjkopmlegaa
