/- the law ArbiterPlays: the walk -/
import Derived.Test.YtikofabijdkbjaaE
namespace Go.Proofs.Ytikofabijdkbjaa
open Go.RowKit

def gr (rows : List (List Bool)) (r : Nat) : List Bool := rows.getD r []
/-- The slice at b reads as rows. -/
def RowsAt (w : World) (b : Option Addr) (rows : List (List Bool)) : Prop :=
  ∀ r, r < rows.length → ∃ rb ro a c, b = some ⟨rb, ro, none⟩ ∧ w.cell? ⟨rb, ro + r, none⟩ = some (.slice a (gr rows r).length c) ∧ BoolsAt w a (gr rows r) ∧ (gr rows r).length ≤ maxLen
theorem RowsAt.keeps {w w' : World} {b : Option Addr} {rows : List (List Bool)} (h : RowsAt w b rows) (hk : Keeps Nil w w') : RowsAt w' b rows := fun r hr =>
  let ⟨rb, ro, a, c, h1, h2, h3, h4⟩ := h r hr
  ⟨rb, ro, a, c, h1, hk.cell h2 (fun h => h), h3.keeps hk (fun _ _ _ h => h), h4⟩

/-- both arbiters stand, apart from one another and from all that was there -/
structure Both (w wr : World) (A B R Q : Nat) (s : Arb) : Prop where
  a : ArbAt wr A B s
  r : RAt wr R Q s
  ok : s.Ok
  fr : s.fresh = true → s.used = 0
  k : Keeps Nil w wr
  hA : w.heap.size ≤ A
  hR : w.heap.size ≤ R
  AR : A ≠ R
  AQ : A ≠ Q
  BR : B ≠ R

theorem Both.step1 {w wr w1 : World} {A B R Q : Nat} {s : Arb} (h : Both w wr A B R Q s) (bs : List Bool) (hk : Keeps (· = A) wr w1) : RAt w1 R Q s :=
  h.r.keeps hk (fun e => h.AR e.symm) (fun e => h.AQ e.symm)
theorem Both.step2 {w wr w1 w2 : World} {A B R Q : Nat} {s : Arb} (h : Both w wr A B R Q s) (bs : List Bool) (hk : Keeps (· = A) wr w1) (ha : ArbAt w1 A B (s.next bs).2) (hk2 : Keeps (· = R) w1 w2) (hr : RAt w2 R Q (s.next bs).2) :
    Both w w2 A B R Q (s.next bs).2 :=
  ⟨ha.keeps hk2 h.AR h.BR, hr, Arb.next_ok h.ok bs, Arb.next_fresh h.fr bs, (h.k.trans' hk (fun j e => .inr (by have := h.hA; omega))).trans' hk2 (fun j e => .inr (by have := h.hR; omega)), h.hA, h.hR, h.AR, h.AQ, h.BR⟩
theorem Both.k1 {w wr w1 : World} {A B R Q : Nat} {s : Arb} (h : Both w wr A B R Q s) (hk : Keeps (· = A) wr w1) : Keeps Nil w w1 :=
  h.k.trans' hk (fun j e => .inr (by have := h.hA; omega))
theorem Both.drew {w wr : World} {A B R Q : Nat} {s : Arb} (h : Both w wr A B R Q s) : Both w wr.drew A B R Q s :=
  ⟨h.a.keeps ((Keeps.refl Nil _).drew) (fun h => h) (fun h => h), h.r.keeps ((Keeps.refl Nil _).drew) (fun h => h) (fun h => h), h.ok, h.fr, h.k.drew, h.hA, h.hR, h.AR, h.AQ, h.BR⟩

theorem IntRow.none {w : World} {a : Option Addr} {cap : Nat} {xs : List Int} (h : IntRow w a cap xs) : a = none → cap = 0 ∧ xs.length = 0 := by
  intro ha
  rcases h.form with ⟨_, h2, h3⟩ | ⟨g, cur, h2, _⟩
  · exact ⟨h3, h2⟩
  · rw [h2] at ha; cases ha
theorem gi_set (xs : List Int) (k : Nat) (v : Int) : True := trivial

theorem Both.other {w wr w' : World} {A B R Q g : Nat} {s : Arb} (h : Both w wr A B R Q s) (hk : Keeps (· = g) wr w') (hg : g ≠ A ∧ g ≠ B ∧ g ≠ R ∧ g ≠ Q) (hw : w.heap.size ≤ g) : Both w w' A B R Q s :=
  ⟨h.a.keeps hk (fun e => hg.1 e.symm) (fun e => hg.2.1 e.symm), h.r.keeps hk (fun e => hg.2.2.1 e.symm) (fun e => hg.2.2.2 e.symm), h.ok, h.fr, h.k.trans' hk (fun j e => .inr (by omega)), h.hA, h.hR, h.AR, h.AQ, h.BR⟩

set_option maxHeartbeats 2000000 in
theorem plays_any (a : Option Addr) (cap : Nat) (xs : List Int) (b : Option Addr) (bc : Nat) (rows : List (List Bool)) (w : World) (hx : IntsAt w a xs) (hn : a = none → cap = 0 ∧ xs.length = 0) (hm : xs.length * 8 ≤ 140737488351232)
    (hr : RowsAt w b rows) (hrm : rows.length ≤ maxLen) :
    Calls Try.prog 3 #[.slice a xs.length cap, .slice b rows.length bc] w fun e w' => e = .returned (.bool true) ∧ Keeps Nil w w' := by
  obtain ⟨i0, hi, hz0, hz1, hz2⟩ := info_parts Try.info3
  have hrm' := hrm
  unfold maxLen at hrm'
  have hx' := Lib.hid hx
  have hn' := Lib.hid hn
  have hr' := Lib.hid hr
  clear hx hn hr
  go_enter Try.func3, Try.ntmps3
  go_wp2_with fail
  refine (awake_any w).mono ?_
  rintro e w1 ⟨rfl, k1⟩
  have k1' := Lib.hid k1
  clear k1
  go_wp2_with (at_builtin; refine wpList_app _ rfl _ _ 22 rfl 3 i0 (.int .i64 0) 1 8 Try.underlying22 hi hz0 hz1 hz2 rfl (by decide) none 0 0 [] rfl _ xs.length _ (xs.map (.int .i64)) rfl ?_ ?c1 ?c2 ?c3 ?c4 ?c5 ?c6; intro a' cap' w2 hr2 hk2 hb2)
  case c1 => exact RowAt.nil _ _ _
  case c2 => exact (hx'.out.src (fun h => (hn'.out h).2)).keeps k1'.out
  case c3 => exact fun h => (hn'.out h).1
  case c4 => simp [Value.oneCell']
  case c5 => simp [maxLen]; omega
  case c6 => simp; omega
  have hk2' : Keeps Nil w w2 := k1'.out.trans (hk2.mono (fun j h => by cases h))
  have hr2' : IntRow w2 a' cap' xs := by unfold IntRow; simpa using hr2
  have hl2 : ∀ g, blk a' = some g → w.heap.size ≤ g := by
    intro g hg
    rcases hb2 with h | ⟨h, _⟩
    · rw [h] at hg; cases hg
    · rw [h] at hg; cases hg; exact k1'.out.size
  have K2 := Lib.hid hk2'
  have R2 := Lib.hid hr2'
  have L2 := Lib.hid hl2
  clear hk2' hr2' hl2 hb2 hk2 hr2
  by_cases hok : NewOk xs
  · have OK := Lib.hid hok
    have hlen1 := hok.1
    have hlen8 := hok.2.1
    clear hok
    go_wp2_with fail
    refine (new_yes a' cap' xs w2 R2.out.ints R2.out.none OK.out).mono ?_
    rintro e w3 ⟨A, B, rfl, hA, k3, hA3, hB3⟩
    have hAl : A < w3.heap.size := by obtain ⟨_, h, _⟩ := hA; exact lt_of_heap h
    have hBl : B < w3.heap.size := by obtain ⟨_, _, _, h⟩ := hA; exact lt_of_cell (h 0 OK.out.1)
    have K3 := Lib.hid (K2.out.trans k3)
    have k3' := Lib.hid k3
    have hA' := Lib.hid hA
    have hA3' := Lib.hid (Nat.le_trans K2.out.size hA3)
    have sz2 := k3.size
    clear k3 hA
    go_wp2_with fail
    refine (refNew_any a cap xs w3 (hx'.out.keeps K3.out (fun _ _ _ h => h)) hlen1 hlen8).mono ?_
    rintro e w4 ⟨hyes, _, k4⟩
    obtain ⟨R, Q, rfl, hR, hR4, hQ4⟩ := hyes OK.out.2.2
    have both : Both w w4 A B R Q (Arb.start xs) := ⟨hA'.out.keeps k4 (fun h => h) (fun h => h), RAt.of_ref hR, Arb.start_ok OK.out, fun _ => rfl, K3.out.trans k4, hA3'.out, Nat.le_trans K3.out.size hR4, by omega, by omega, by omega⟩
    have hr4 : IntRow w4 a' cap' xs := (R2.out.keeps k3'.out (fun _ _ h => h)).keeps k4 (fun _ _ h => h)
    have hne : ∀ g, blk a' = some g → g ≠ A ∧ g ≠ B ∧ g ≠ R ∧ g ≠ Q := by
      intro g hg
      have := R2.out.lt hg
      exact ⟨by omega, by omega, by omega, by omega⟩
    have both' := Lib.hid both
    have hr4' := Lib.hid hr4
    have hne' := Lib.hid hne
    have k4' := Lib.hid k4
    clear both hr4 hne hyes k4 hAl hBl sz2 hR4 hQ4 hA3 hB3 hR
    go_wp2_with fail
    obtain ⟨g, cur, ha', hcap, hh, hcs, _⟩ : ∃ g cur, a' = some ⟨g, 0, none⟩ ∧ xs.length ≤ cap' ∧ w4.heap[g]? = some (.cells cur 3 (0, 0)) ∧ cur.size = cap' * 1 ∧ True := by
      rcases hr4'.out.form with ⟨_, h2, _⟩ | ⟨g, cur, h1, h2, h3, h4, _⟩
      · omega
      · exact ⟨g, cur, h1, h2, h3, h4, trivial⟩
    subst ha'
    have hgw := L2.out g rfl
    go_loopw [11] (fun i wr => ∃ (k : Nat) (cur : Array Value), k ≤ xs.length ∧ i = .int .i64 k ∧ Both w wr A B R Q (Arb.start xs) ∧ wr.heap[g]? = some (.cells cur 3 (0, 0)) ∧ xs.length ≤ cur.size) (fun i _ => xs.length - (intOf i).toNat)
    case atStart => exact ⟨0, cur, Nat.zero_le _, rfl, both'.out, hh, by omega⟩
    case round =>
      obtain ⟨k, cu, hk, rfl, hb, hh1, hc1⟩ := hrel
      have hb' := Lib.hid hb
      have hh1' := Lib.hid hh1
      by_cases hlt : k < xs.length
      · have hcell : wr.cell? ⟨g, k, none⟩ = some cu[k] := by rw [cell_of_heap hh1]; simp
        have hfz := frozen_of_heap hh1 k
        clear hb hh1 hh
        go_wp2
        go_roundw
        case rel => exact ⟨k + 1, cu.setIfInBounds k (.int .i64 99), by omega, by go_num, hb'.out.other ((Keeps.refl (· = g) wr).setCell (p := ⟨g, k, none⟩) (.inl rfl) _) (hne'.out g rfl) hgw, heap_setCell_same hh1'.out k _, by simpa using hc1⟩
        case measure => simp [intOf]; omega
      · clear hb hh1 hh
        go_wp2_with fail
        go_loopw [12] (fun i wr => ∃ (k : Nat) (s : Arb), k ≤ rows.length ∧ k ≤ 200 ∧ i = .int .i64 k ∧ Both w wr A B R Q s) (fun i _ => rows.length - (intOf i).toNat)
        case atStart => exact ⟨0, _, Nat.zero_le _, by omega, rfl, hb'.out⟩
        case round =>
          obtain ⟨k, s, hk, hk2, rfl, hb2⟩ := hrel
          have hb2' := Lib.hid hb2
          clear hb2
          by_cases hlt2 : k < rows.length
          · by_cases hlt3 : k < 200
            · have d1 : decide ((k : Int) < rows.length) = true := decide_eq_true (by omega)
              have d2 : decide ((k : Int) < 200) = true := decide_eq_true (by omega)
              obtain ⟨rb, ro, ra, rc, rfl, hcell0, hbools, hrl⟩ := hr'.out k hlt2
              have hcell := hb2'.out.k.cell hcell0 (fun h => h)
              have hcell0' := Lib.hid hcell0
              have hbools' := Lib.hid hbools
              have hrl' := Lib.hid hrl
              clear hbools hrl hcell0
              go_upto_region 19 with (fail)
              go_cut [74] (fun s74 wx => s74 = .bool false ∧ Both w wx A B R Q (s.next (gr rows k)).2)
              case first =>
                go_region_held3 (fun w' => w'.cell? ⟨rb, ro + k, none⟩ = some (.slice ra (gr rows k).length rc)) (first | (go_keep; done) | exact (hb2'.out.drew.k1 hk1).cell hcell0'.out (fun h => h) | exact (hb2'.out.drew.step2 (gr rows k) hk1 ha1 hk2 ha2).k.cell hcell0'.out (fun h => h))
                  (first | (go_at_call 10; refine (next_any A B s ra rc (gr rows k) _ hb2'.out.ok (by exact hb2'.out.drew.a) (by exact (hbools'.out.keeps hb2'.out.drew.k (fun _ _ _ h => h)))).mono ?_; rintro e w1 ⟨rfl, ha1, hk1⟩) | (go_at_call 11; refine (rnext_any R Q s ra rc (gr rows k) _ hb2'.out.ok hb2'.out.fr (by exact (hb2'.out.drew.step1 (gr rows k) hk1)) (by exact (hbools'.out.keeps (hb2'.out.drew.k1 hk1) (fun _ _ _ h => h))) hrl'.out).mono ?_; rintro e w2 ⟨rfl, ha2, hk2⟩))
                all_goals
                  go_wp2_with fail
                  go_meet
                  exact ⟨by simp, hb2'.out.drew.step2 (gr rows k) hk1 ha1 hk2 ha2⟩
              case rest =>
                obtain ⟨rfl, hb3⟩ := hcut
                have hb3' := Lib.hid hb3
                clear hb3
                go_wp2_with fail
                go_roundw
                case rel => exact ⟨k + 1, _, by omega, by omega, by go_num, hb3'.out⟩
                case measure => simp [intOf]; omega
            · have d1 : decide ((k : Int) < rows.length) = true := decide_eq_true (by omega)
              have d2 : decide ((k : Int) < 200) = false := decide_eq_false (by omega)
              go_wp2_with fail
              go_ret
              exact ⟨rfl, hb2'.out.k⟩
          · have d1 : decide ((k : Int) < rows.length) = false := decide_eq_false (by omega)
            go_wp2_with fail
            go_ret
            exact ⟨rfl, hb2'.out.k⟩
  · have hmm : xs.length ≤ maxLen := by unfold maxLen; omega
    have OK := Lib.hid hok
    have hmm' := Lib.hid hmm
    clear hok hmm
    go_wp2_with fail
    refine (new_no a' cap' xs w2 R2.out.ints hmm'.out OK.out).mono ?_
    rintro e w3 ⟨rfl, rfl⟩
    go_wp2_with fail
    by_cases hl : xs.length < 1 ∨ 8 < xs.length
    · refine (refNew_no a cap xs w3 hl hmm'.out).mono ?_
      rintro e w4 ⟨rfl, rfl⟩
      go_wp2_with fail
      go_ret
      exact ⟨rfl, K2.out⟩
    · refine (refNew_any a cap xs w3 (hx'.out.keeps K2.out (fun _ _ _ h => h)) (by omega) (by omega)).mono ?_
      rintro e w4 ⟨_, hno, k4⟩
      obtain rfl := hno (fun h => OK.out ⟨by omega, by omega, h⟩)
      have k4' := Lib.hid k4
      clear hno k4
      go_wp2_with fail
      go_ret
      exact ⟨rfl, K2.out.trans k4'.out⟩
end Go.Proofs.Ytikofabijdkbjaa
