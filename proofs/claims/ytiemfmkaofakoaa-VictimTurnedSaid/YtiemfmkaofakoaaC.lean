/- best, at the greedy chooser -/
import Derived.Test.YtiemfmkaofakoaaB
import Derived.Deep.DeepCutAuto
namespace Go.Proofs.Ytiemfmkaofakoaa
open Go.RowKit
attribute [local go_sem ↓] Go.wp_at_zero Go.wp_at_succ

/-- The seven cells of a row at an address. -/
structure SupAt (w : World) (b off : Nat) (s : Sup) : Prop where
  c0 : w.cell? ⟨b, off, none⟩ = some (.int .u32 s.id)
  c1 : w.cell? ⟨b, off + 1, none⟩ = some (.int .i64 s.live)
  c2 : w.cell? ⟨b, off + 2, none⟩ = some (.int .i64 s.slots)
  c3 : w.cell? ⟨b, off + 3, none⟩ = some (.int .i64 s.age)
  c4 : w.cell? ⟨b, off + 4, none⟩ = some (.int .i64 s.erases)
  c5 : w.cell? ⟨b, off + 5, none⟩ = some (.int .i64 s.reads)
  c6 : w.cell? ⟨b, off + 6, none⟩ = some (.bool s.sick)
theorem SupAt.keeps {S : Nat → Prop} {w w' : World} {b off : Nat} {s : Sup} (h : SupAt w b off s) (hk : Keeps S w w') (hn : ¬ S b) : SupAt w' b off s :=
  ⟨hk.cell h.c0 hn, hk.cell h.c1 hn, hk.cell h.c2 hn, hk.cell h.c3 hn, hk.cell h.c4 hn, hk.cell h.c5 hn, hk.cell h.c6 hn⟩
/-- The slice at a reads as the rows l 0, l 1, .. -/
def SupsAt (w : World) (a : Option Addr) (n : Nat) (l : Nat → Sup) : Prop := ∀ j, j < n → ∃ b off, a = some ⟨b, off, none⟩ ∧ SupAt w b (off + j * 7) (l j)
theorem SupsAt.keeps {w w' : World} {a : Option Addr} {n : Nat} {l : Nat → Sup} (h : SupsAt w a n l) (hk : Keeps Nil w w') : SupsAt w' a n l := fun j hj =>
  let ⟨b, off, h1, h2⟩ := h j hj
  ⟨b, off, h1, h2.keeps hk (fun h => h)⟩

def ltB (c : Sup → Sup → Int) (a b : Sup) : Bool := decide (lex c a b < 0)

theorem sel_skip {p : Sup → Bool} {l : Nat → Sup} {lt : Sup → Sup → Bool} {at_ : Int} {k n : Nat} (hk : k < n) (h : p (l k) = false) : sel p l lt at_ k (n - k) = sel p l lt at_ (k + 1) (n - (k + 1)) := by
  obtain ⟨f, hf⟩ : ∃ f, n - k = f + 1 := ⟨n - k - 1, by omega⟩
  have hf' : n - (k + 1) = f := by omega
  rw [hf, hf', sel, h]; rfl
theorem sel_take {p : Sup → Bool} {l : Nat → Sup} {lt : Sup → Sup → Bool} {at_ : Int} {k n : Nat} (hk : k < n) (h : p (l k) = true) (h2 : at_ < 0 ∨ lt (l k) (l at_.toNat) = true) : sel p l lt at_ k (n - k) = sel p l lt k (k + 1) (n - (k + 1)) := by
  obtain ⟨f, hf⟩ : ∃ f, n - k = f + 1 := ⟨n - k - 1, by omega⟩
  have hf' : n - (k + 1) = f := by omega
  rw [hf, hf', sel, h, if_pos]
  rcases h2 with h2 | h2 <;> simp [h2]
theorem sel_leave {p : Sup → Bool} {l : Nat → Sup} {lt : Sup → Sup → Bool} {at_ : Int} {k n : Nat} (hk : k < n) (h1 : 0 ≤ at_) (h2 : lt (l k) (l at_.toNat) = false) : sel p l lt at_ k (n - k) = sel p l lt at_ (k + 1) (n - (k + 1)) := by
  obtain ⟨f, hf⟩ : ∃ f, n - k = f + 1 := ⟨n - k - 1, by omega⟩
  have hf' : n - (k + 1) = f := by omega
  rw [hf, hf', sel, if_neg]
  rw [h2]; simp; omega
theorem sel_end {p : Sup → Bool} {l : Nat → Sup} {lt : Sup → Sup → Bool} {at_ : Int} {k n : Nat} (hk : n ≤ k) : sel p l lt at_ k (n - k) = at_ := by
  have hf' : n - k = 0 := by omega
  rw [hf', sel]

set_option maxHeartbeats 2000000 in
theorem best_g (a : Option Addr) (n cap : Nat) (l : Nat → Sup) (w : World) (hl : SupsAt w a n l) (hm : n ≤ maxLen) :
    Calls Try.prog 20 #[.agg #[.func (.func 15) #[] #[], .func (.func 16) #[] #[]], .slice a n cap] w fun e w' => e = .returned (.int .i64 (sel mayG l (ltB greedy) (-1) 0 n)) ∧ Keeps Nil w w' := by
  unfold maxLen at hm
  have hl' := Lib.hid hl
  clear hl
  go_enter Try.func20, Try.ntmps20
  go_wp2_with fail
  go_loopw [5, 10] (fun at_ i wr => ∃ (k : Nat) (j : Int), k ≤ n ∧ i = .int .i64 k ∧ at_ = .int .i64 j ∧ -1 ≤ j ∧ j < k ∧ Keeps Nil (w.alloc (.cells #[.func (.func 15) #[] #[], .func (.func 16) #[] #[]] 35)) wr ∧ Hid (sel mayG l (ltB greedy) (-1) 0 n = sel mayG l (ltB greedy) j k (n - k))) (fun _ i _ => n - (intOf i).toNat)
  case atStart => exact ⟨0, -1, Nat.zero_le _, rfl, rfl, by omega, by omega, Keeps.refl _ _, rfl⟩
  case round =>
    obtain ⟨k, j, hk, rfl, rfl, hj0, hj1, hkp, hrel⟩ := hrel
    have hkp' := Lib.hid hkp
    have hC0 : wr.cell? ⟨w.heap.size, 0, none⟩ = some (.func (.func 15) #[] #[]) := hkp.cell (by rw [World.cell?_alloc_at _ _ _ _ rfl]; rfl) (fun h => h)
    have hC1 : wr.cell? ⟨w.heap.size, 1, none⟩ = some (.func (.func 16) #[] #[]) := hkp.cell (by rw [World.cell?_alloc_at _ _ _ _ rfl]; rfl) (fun h => h)
    have hlr := Lib.hid (hl'.out.keeps (((Keeps.refl Nil w).alloc _).trans hkp))
    have hsz : w.heap.size < wr.heap.size := by have := hkp.size; simp at this; omega
    clear hkp
    by_cases hlt : k < n
    · obtain ⟨b, off, rfl, hs⟩ := hlr.out k hlt
      obtain ⟨c0, c1, c2, c3, c4, c5, c6⟩ := hs
      cases hmay : mayG (l k)
      · have hrel2 := Lib.hid (hrel.out.trans (sel_skip hlt hmay))
        have hm' := Lib.hid hmay
        clear hrel hmay
        go_wp2_with fail
        refine (may_any (l k) _).mono ?_
        rw [hm'.out]
        rintro e w1 ⟨rfl, k1⟩
        have k1' := Lib.hid k1
        clear k1
        go_wp2_with fail
        go_roundw
        case rel => exact ⟨k + 1, j, by omega, by go_num, rfl, by omega, by omega, (hkp'.out.alloc _).trans k1'.out, hrel2⟩
        case measure => simp [intOf]; omega
      · have hm' := Lib.hid hmay
        clear hmay
        go_wp2_with fail
        refine (may_any (l k) _).mono ?_
        rw [hm'.out]
        rintro e w1 ⟨rfl, k1⟩
        have k1' := Lib.hid k1
        by_cases hneg : j < 0
        · have d1 : decide (j < 0) = true := decide_eq_true hneg
          have hrel2 := Lib.hid (hrel.out.trans (sel_take hlt hm'.out (.inl hneg)))
          clear k1 hrel
          go_wp2_with fail
          go_quiet (fail)
          go_wp2_with fail
          go_roundw
          case rel => exact ⟨k + 1, k, by omega, by go_num, rfl, by omega, by omega, ((hkp'.out.alloc _).trans k1'.out).drewN _, hrel2⟩
          case measure => simp [intOf]; omega
        · have d1 : decide (j < 0) = false := decide_eq_false hneg
          obtain ⟨jn, rfl⟩ := Int.eq_ofNat_of_zero_le (show 0 ≤ j by omega)
          have hjn : jn < n := by omega
          obtain ⟨b', off', hbe, hs2⟩ := hlr.out jn hjn
          simp only [Option.some.injEq, Addr.mk.injEq] at hbe
          obtain ⟨rfl, rfl, _⟩ := hbe
          have hC1' := k1.cell (b := w.heap.size) (o := 1) (v := .func (.func 16) #[] #[]) (by rw [World.cell?_alloc_past _ _ _ hsz]; exact hC1) (fun h => h)
          have hq : SupAt w1 wr.heap.size 0 (l k) := by
            refine SupAt.keeps ?_ k1 (fun h => h)
            constructor <;> (rw [World.cell?_alloc_at _ _ _ _ rfl]; rfl)
          have hs3 : SupAt w1 b (off + jn * 7) (l jn) := (hs2.keeps ((Keeps.refl Nil wr).alloc _) (fun h => h)).keeps k1 (fun h => h)
          have KS := fun (W : World) (hW : Keeps Nil w1 W) => (⟨hW.cell hC1' (fun h => h), hW.cell hq.c0 (fun h => h), hW.cell hq.c1 (fun h => h), hW.cell hq.c2 (fun h => h), hW.cell hq.c3 (fun h => h), hW.cell hq.c4 (fun h => h), hW.cell hq.c5 (fun h => h), hW.cell hq.c6 (fun h => h), hW.cell hs3.c0 (fun h => h), hW.cell hs3.c1 (fun h => h), hW.cell hs3.c2 (fun h => h), hW.cell hs3.c3 (fun h => h), hW.cell hs3.c4 (fun h => h), hW.cell hs3.c5 (fun h => h), hW.cell hs3.c6 (fun h => h)⟩ : W.cell? ⟨w.heap.size, 1, none⟩ = some (.func (.func 16) #[] #[]) ∧ W.cell? ⟨wr.heap.size, 0, none⟩ = some (.int .u32 (l k).id) ∧ W.cell? ⟨wr.heap.size, 1, none⟩ = some (.int .i64 (l k).live) ∧ W.cell? ⟨wr.heap.size, 2, none⟩ = some (.int .i64 (l k).slots) ∧ W.cell? ⟨wr.heap.size, 3, none⟩ = some (.int .i64 (l k).age) ∧ W.cell? ⟨wr.heap.size, 4, none⟩ = some (.int .i64 (l k).erases) ∧ W.cell? ⟨wr.heap.size, 5, none⟩ = some (.int .i64 (l k).reads) ∧ W.cell? ⟨wr.heap.size, 6, none⟩ = some (.bool (l k).sick) ∧ W.cell? ⟨b, off + jn * 7, none⟩ = some (.int .u32 (l jn).id) ∧ W.cell? ⟨b, off + jn * 7 + 1, none⟩ = some (.int .i64 (l jn).live) ∧ W.cell? ⟨b, off + jn * 7 + 2, none⟩ = some (.int .i64 (l jn).slots) ∧ W.cell? ⟨b, off + jn * 7 + 3, none⟩ = some (.int .i64 (l jn).age) ∧ W.cell? ⟨b, off + jn * 7 + 4, none⟩ = some (.int .i64 (l jn).erases) ∧ W.cell? ⟨b, off + jn * 7 + 5, none⟩ = some (.int .i64 (l jn).reads) ∧ W.cell? ⟨b, off + jn * 7 + 6, none⟩ = some (.bool (l jn).sick))
          have KS' := Lib.hid KS
          have hjl : (jn : Int) < n := by omega
          have hj0 : (0 : Int) ≤ jn := by omega
          clear KS hs2 hs3 hq k1 hC0 hC1 hC1' c0 c1 c2 c3 c4 c5 c6 hneg
          go_wp2_with fail
          go_upto_region 6 with (fail)
          go_cut [42] (fun s42 wx => s42 = .bool (ltB greedy (l k) (l jn)) ∧ Keeps Nil w1 wx)
          case first =>
            go_region_held3 (fun W => W.cell? ⟨w.heap.size, 1, none⟩ = some (.func (.func 16) #[] #[]) ∧ W.cell? ⟨wr.heap.size, 0, none⟩ = some (.int .u32 (l k).id) ∧ W.cell? ⟨wr.heap.size, 1, none⟩ = some (.int .i64 (l k).live) ∧ W.cell? ⟨wr.heap.size, 2, none⟩ = some (.int .i64 (l k).slots) ∧ W.cell? ⟨wr.heap.size, 3, none⟩ = some (.int .i64 (l k).age) ∧ W.cell? ⟨wr.heap.size, 4, none⟩ = some (.int .i64 (l k).erases) ∧ W.cell? ⟨wr.heap.size, 5, none⟩ = some (.int .i64 (l k).reads) ∧ W.cell? ⟨wr.heap.size, 6, none⟩ = some (.bool (l k).sick) ∧ W.cell? ⟨b, off + jn * 7, none⟩ = some (.int .u32 (l jn).id) ∧ W.cell? ⟨b, off + jn * 7 + 1, none⟩ = some (.int .i64 (l jn).live) ∧ W.cell? ⟨b, off + jn * 7 + 2, none⟩ = some (.int .i64 (l jn).slots) ∧ W.cell? ⟨b, off + jn * 7 + 3, none⟩ = some (.int .i64 (l jn).age) ∧ W.cell? ⟨b, off + jn * 7 + 4, none⟩ = some (.int .i64 (l jn).erases) ∧ W.cell? ⟨b, off + jn * 7 + 5, none⟩ = some (.int .i64 (l jn).reads) ∧ W.cell? ⟨b, off + jn * 7 + 6, none⟩ = some (.bool (l jn).sick))
              (first | exact KS'.out _ ((Keeps.refl Nil w1).drew) | exact KS'.out _ (((Keeps.refl Nil w1).drew).trans hk2) | exact KS'.out _ ((((Keeps.refl Nil w1).drew).trans hk2).alloc _))
              (first | (go_at_call 16; refine (greedy_any (l k) (l jn) _).mono ?_; rintro e w2 ⟨rfl, hk2⟩) | (go_at_call 30; refine (cmpU_any _ _ _).mono ?_; rintro e w' ⟨rfl, rfl⟩) | (go_at_call 29; refine (or_any _ _ _ _ (by exact World.cell?_alloc_at _ _ _ _ rfl) (by exact World.cell?_alloc_at _ _ _ _ rfl)).mono ?_; rintro e w' ⟨rfl, rfl⟩))
            all_goals
              go_wp2_with fail
              go_meet
              exact ⟨rfl, (((Keeps.refl Nil w1).drew).trans hk2).alloc _⟩
          case rest =>
            obtain ⟨rfl, hk3⟩ := hcut
            have hk3' := Lib.hid hk3
            clear hk3
            cases hb : ltB greedy (l k) (l jn)
            · have hrel2 := Lib.hid (hrel.out.trans (sel_leave hlt hj0 (by simpa using hb)))
              have hb' := Lib.hid hb
              clear hrel hb
              go_wp2_with fail
              go_roundw
              case rel => exact ⟨k + 1, jn, by omega, by go_num, rfl, by omega, by omega, ((hkp'.out.alloc _).trans k1'.out).trans hk3'.out, hrel2⟩
              case measure => simp [intOf]; omega
            · have hrel2 := Lib.hid (hrel.out.trans (sel_take hlt hm'.out (.inr (by simpa using hb))))
              have hb' := Lib.hid hb
              clear hrel hb
              go_wp2_with fail
              go_roundw
              case rel => exact ⟨k + 1, k, by omega, by go_num, rfl, by omega, by omega, ((hkp'.out.alloc _).trans k1'.out).trans hk3'.out, hrel2⟩
              case measure => simp [intOf]; omega
    · have hrel2 := Lib.hid (hrel.out.trans (sel_end (by omega)))
      clear hrel
      go_wp2_with fail
      go_ret
      rw [hrel2.out]
      exact ⟨rfl, ((Keeps.refl Nil w).alloc _).trans hkp'.out⟩
end Go.Proofs.Ytiemfmkaofakoaa
