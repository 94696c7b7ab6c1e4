/- awake -/
import Derived.Test.YtnickcjkipemmaaDfR
namespace Go.Proofs.Ytnickcjkipemmaa
open Go.RowKit

theorem numsAt_nil (w : World) : NumsAt w none [] := fun j hj => by cases hj
/-- a pager, and a map of it -/
theorem born_df {w w1 w2 : World} {pb : Nat} {keys most : Int} {P : Pg} {e : Ending} {O : Nat → Prop} (hk : Keeps Nil w w1) (hO : ∀ k, O k → w.heap.size ≤ k)
    (h : ∃ db O', e = .returned (.tuple #[.pointer (some ⟨db, 0, none⟩), .int .i64 0]) ∧ DfAt w2 db pb keys most ⟨P, []⟩ O' ∧ Keeps Nil w1 w2 ∧ ∀ k, O' k → O k ∨ w1.heap.size ≤ k) :
    ∃ db O', e = .returned (.tuple #[.pointer (some ⟨db, 0, none⟩), .int .i64 0]) ∧ DfIn w w2 db pb keys most ⟨P, []⟩ O' ∧ ∀ k, O' k → O k ∨ w1.heap.size ≤ k := by
  obtain ⟨db, O', h1, h2, h3, h4⟩ := h
  refine ⟨db, O', h1, ⟨h2, hk.trans h3, fun k hk2 => ?_⟩, h4⟩
  rcases h4 k hk2 with h5 | h5
  · exact hO k h5
  · have := hk.size; omega
theorem DfIn.at {w wr : World} {db pb : Nat} {keys most : Int} {D : Df} {O : Nat → Prop} (h : DfIn w wr db pb keys most D O) : ∃ OP, PgAt wr pb D.P OP ∧ ∀ k, OP k → O k := by
  obtain ⟨⟨cb, OL, OP, h1, rfl⟩, _, _⟩ := h
  exact ⟨OP, h1.pg, fun k hk => .inr (.inr hk)⟩
def aw0 : Df := ⟨pgNew 4 [], []⟩
def aw1 : Df := (aw0.set 2 0 5).2
def aw2 : Df := (aw1.set 2 1 6).2
def aw3 : Df := aw2.getD 2 7
def aw4 : Df := aw3.getD 2 0
theorem aw_vals : (aw0.set 2 0 5).1 = 0 ∧ (aw1.set 2 1 6).1 = 0 ∧ aw2.getV 2 7 = 0 ∧ aw2.getC 2 7 = 0 ∧ aw3.getV 2 0 = 5 ∧ aw3.getC 2 0 = 0 ∧ aw4.L.length = 2 ∧ aw4.P.at 0 = 5 := by
  refine ⟨?_, ?_, ?_, ?_, ?_, ?_, ?_, ?_⟩ <;> rfl
theorem aw_ok : aw0.Ok 8 2 ∧ aw1.Ok 8 2 ∧ aw2.Ok 8 2 ∧ aw3.Ok 8 2 := by
  have h0 : aw0.Ok 8 2 := ok_new (by decide) (by decide)
  have h1 : aw1.Ok 8 2 := (h0.set (by decide) (k := 0) (n := 5) (by decide)).1
  have h2 : aw2.Ok 8 2 := (h1.set (by decide) (k := 1) (n := 6) (by decide)).1
  exact ⟨h0, h1, h2, (h2.get (by decide) (k := 7) (by decide)).1⟩
theorem aw_lt : aw0.P.Lt 100 ∧ aw1.P.Lt 100 ∧ aw2.P.Lt 100 ∧ aw3.P.Lt 100 := by
  have h0 : aw0.P.Lt 0 := ⟨Nat.le_refl _, Nat.le_refl _, Nat.le_refl _⟩
  have h1 : aw1.P.Lt (0 + 2) := set_lt h0
  have h2 : aw2.P.Lt (0 + 2 + 2) := set_lt h1
  have h3 : aw3.P.Lt (0 + 2 + 2 + 3) := get_lt h2
  exact ⟨h0.mono (by omega), h1.mono (by omega), h2.mono (by omega), h3.mono (by omega)⟩
theorem aw_all : ∃ D0 D1 D2 D3 D4 : Df, (⟨pgNew 4 [], []⟩ : Df) = D0 ∧ (D0.set 2 0 5 = (0, D1) ∧ D1.set 2 1 6 = (0, D2) ∧ D2.getV 2 7 = 0 ∧ D2.getC 2 7 = 0 ∧ D2.getD 2 7 = D3 ∧ D3.getV 2 0 = 5 ∧ D3.getC 2 0 = 0 ∧ D3.getD 2 0 = D4 ∧ D4.L.length = 2 ∧ D4.P.at 0 = 5) ∧
    (D0.Ok 8 2 ∧ D1.Ok 8 2 ∧ D2.Ok 8 2 ∧ D3.Ok 8 2) ∧ (D0.P.Lt 100 ∧ D1.P.Lt 100 ∧ D2.P.Lt 100 ∧ D3.P.Lt 100) := by
  obtain ⟨v1, v2, v3, v4, v5, v6, v7, v8⟩ := aw_vals
  refine ⟨aw0, aw1, aw2, aw3, aw4, rfl, ⟨?_, ?_, v3, v4, rfl, v5, v6, rfl, v7, v8⟩, aw_ok, aw_lt⟩
  · exact Prod.ext v1 rfl
  · exact Prod.ext v2 rfl
set_option maxHeartbeats 4000000 in
set_option maxRecDepth 100000 in
theorem awake27 (w : World) : Calls Try.prog 27 #[] w fun e w' => e = .returned (.bool true) ∧ Keeps Nil w w' := by
  have hP : Calls Try.prog 28 #[.int .i64 4, .slice none 0 0] w (PNewOut w 4 []) := pnew_any 4 w (by decide) (numsAt_nil w) (by decide)
  obtain ⟨D0, D1, D2, D3, D4, hD0, hV, hOk, hLt⟩ := aw_all
  have hD0' := Lib.hid hD0
  have hV := Lib.hid hV
  have hOk := Lib.hid hOk
  have hLt := Lib.hid hLt
  have hP' := Lib.hid hP
  clear hP hD0
  go_enter Try.func27, Try.ntmps27
  go_wp2_with fail
  refine (hP'.out).mono ?_
  rintro e w1 ⟨pb, O, rfl, hPg, hk1, hO⟩
  have hN := new_ok (keys := 8) (most := 2) (P := pgNew 4 []) hPg (by decide) (by decide) rfl rfl
  rw [show (((pgNew 4 []).per : Nat) : Int) = 4 from rfl] at hN
  rw [hD0'.out] at hN
  have hN' := Lib.hid hN
  have hkO := Lib.hid (And.intro hk1 hO)
  clear hN hPg hk1 hO
  go_wp2_with fail
  refine (hN'.out).mono ?_
  rintro e w2 ⟨db, O2, rfl, hd2, hk2, hO2⟩
  have hI : DfIn w w2 db pb 8 2 D0 O2 := ⟨hd2, hkO.out.1.trans hk2, fun k hk => (hO2 k hk).elim (fun h => hkO.out.2 k h) (fun h => Nat.le_trans hkO.out.1.size h)⟩
  have hS := dset_any hI.df hOk.out.1 0 5 (by decide) (by decide) (hLt.out.1.mono (by decide))
  rw [hV.out.1] at hS
  have hS' := Lib.hid hS
  have hI' := Lib.hid hI
  clear hd2 hk2 hO2 hS hI hkO hN'
  go_wp2_with fail
  refine (hS'.out).mono ?_
  intro e w3 hE
  obtain ⟨rfl, O3, hI3, _, _⟩ := hI'.out.step hE
  have hS := dset_any hI3.df hOk.out.2.1 1 6 (by decide) (by decide) (hLt.out.2.1.mono (by decide))
  rw [hV.out.2.1] at hS
  have hS3' := Lib.hid hS
  have hI3' := Lib.hid hI3
  clear hE hS hI3 hI' hS'
  go_wp2_with fail
  refine (hS3'.out).mono ?_
  intro e w4 hE
  obtain ⟨rfl, O4, hI4, _, _⟩ := hI3'.out.step hE
  have hS := dget_any hI4.df hOk.out.2.2.1 7 (by decide) (by decide) (hLt.out.2.2.1.mono (by decide))
  rw [hV.out.2.2.1, hV.out.2.2.2.1, hV.out.2.2.2.2.1] at hS
  have hS4' := Lib.hid hS
  have hI4' := Lib.hid hI4
  clear hE hS hI4 hI3' hS3'
  go_wp2_with fail
  refine (hS4'.out).mono ?_
  intro e w5 hE
  obtain ⟨rfl, O5, hI5, _, _⟩ := hI4'.out.step hE
  have hS := dget_any hI5.df hOk.out.2.2.2 0 (by decide) (by decide) (hLt.out.2.2.2.mono (by decide))
  rw [hV.out.2.2.2.2.2.1, hV.out.2.2.2.2.2.2.1, hV.out.2.2.2.2.2.2.2.1] at hS
  have hS5' := Lib.hid hS
  have hI5' := Lib.hid hI5
  clear hE hS hI5 hI4' hS4'
  go_wp2_with fail
  refine (hS5'.out).mono ?_
  intro e w6 hE
  obtain ⟨rfl, O6, hI6, _, _⟩ := hI5'.out.step hE
  have hA := Lib.hid (get_arg hI6.df 8 (.inr (by decide)))
  have hI6' := Lib.hid hI6
  clear hE hI6 hI5' hS5'
  go_wp2_with fail
  refine (hA.out).mono ?_
  rintro e w7 ⟨rfl, hk7⟩
  have hI7 := hI6'.out.nil hk7
  have hH := held_any hI7.df
  rw [hV.out.2.2.2.2.2.2.2.2.1] at hH
  obtain ⟨OP, hPg, _⟩ := hI7.at
  have hAt := at_any hPg (k := 0) (by decide) (by decide)
  rw [hV.out.2.2.2.2.2.2.2.2.2] at hAt
  have hH' := Lib.hid hH
  have hAt' := Lib.hid hAt
  have hkE := Lib.hid hI7.keep
  clear hk7 hI7 hH hPg hAt hA hI6'
  go_wp2_with fail
  refine (hH'.out).mono ?_
  rintro e w8 ⟨rfl, rfl⟩
  go_wp2_with fail
  refine (hAt'.out).mono ?_
  rintro e w9 ⟨rfl, hk9⟩
  have hk9' := Lib.hid hk9
  clear hk9
  go_wp2_with fail
  go_ret
  exact ⟨rfl, hkE.out.trans hk9'.out⟩
end Go.Proofs.Ytnickcjkipemmaa
