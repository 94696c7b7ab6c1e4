/- Flush, whole; abs -/
import Derived.Test.YtnickcjkipemmaaDfQ
namespace Go.Proofs.Ytnickcjkipemmaa
open Go.RowKit

variable {w w' : World} {db pb cb : Nat} {keys most : Int} {D D' : Df} {O OL OP T : Nat → Prop}
set_option maxHeartbeats 4000000 in
set_option maxRecDepth 100000 in
theorem dflush_any {b : Nat} (h : DfAt w db pb keys most D O) (hok : D.Ok keys most) (hb : D.P.Lt b) (hb2 : b ≤ 10000000) :
    Calls Try.prog 34 #[.pointer (some ⟨db, 0, none⟩)] w (DfOut w db pb keys most O (.returned (.int .i64 (Df.flush D.L D).1)) (Df.flush D.L D).2) := by
  have hmf : ∀ (fn : Fn) (first cap : Array Value) (w : World), (Instr.makeFunc fn first cap).run Try.prog w = .ok (.func fn first cap) w := fun _ _ _ _ => rfl
  obtain ⟨c, hcE⟩ : ∃ c, (Df.flush D.L D).1 = c := ⟨_, rfl⟩
  have s1 := (Keeps.refl Nil w).alloc (.cells #[.pointer (some ⟨db, 0, none⟩)] 63)
  have sa := (Keeps.refl Nil (w.alloc (.cells #[.pointer (some ⟨db, 0, none⟩)] 63))).alloc (.cells #[.int .i64 0] 27)
  have hlt := fun k (hk : O k) => h.lt hk
  have h1 := h.keeps s1 (fun _ _ h => h)
  have hS := flush55 (mv := w.heap.size) (h1.keeps sa (fun _ _ h => h)) hok (by simp [go_sem]) (fun h => by have := hlt _ h; omega) hb hb2
  have hR := tried_any (w := w.alloc (.cells #[.pointer (some ⟨db, 0, none⟩)] 63)) (c := (Df.flush D.L D).1) (S := fun w1 => DfOut ((w.alloc (.cells #[.pointer (some ⟨db, 0, none⟩)] 63)).alloc (.cells #[.int .i64 0] 27)) db pb keys most O (resE (Df.flush D.L D).1) (Df.flush D.L D).2 (resE (Df.flush D.L D).1) w1) (enter55 _) (hS.mono fun e w1 h => by
    obtain ⟨rfl, h1⟩ := h
    refine ⟨rfl, ⟨rfl, h1⟩, ?_⟩
    obtain ⟨O', _, h2, _⟩ := h1
    exact h2.mono (fun j hj => by have := hlt _ hj; simp; omega))
  rw [hcE] at hR ⊢
  have hR' := Lib.hid hR
  have s1' := Lib.hid s1
  have sa' := Lib.hid sa
  have hlt' := Lib.hid hlt
  clear h hok hb h1 hS hR s1 sa hlt hcE
  go_enter Try.func34, Try.ntmps34
  go_wp2_with fail
  refine (hR'.out).mono ?_
  rintro e w5 ⟨rfl, w1, hD1, hk5⟩
  have hE := Lib.hid (hD1.tried hk5 (fun h => by have := hlt'.out _ h; simp at this; omega) (by simp))
  clear hD1 hk5
  go_wp2_with fail
  go_ret
  obtain ⟨O', h1, h2, h3⟩ := hE.out
  have hKa := s1'.out.trans sa'.out
  refine ⟨rfl, O', h1, ((hKa.mono (T := fun k => O k ∨ w.heap.size ≤ k) (fun _ h => h.elim)).trans (h2.mono (fun j hj => ?_))).oldS, fun k hk => (h3 k hk).imp (fun h => h) (fun h => ⟨Nat.le_trans hKa.size h.1, h.2⟩)⟩
  rcases hj with hj | hj
  · exact .inl hj
  · exact .inr (by rw [hj]; simp)
theorem abs29_any (n : Int) (w : World) (h0 : -9223372036854775808 ≤ n) (h1 : n ≤ 9223372036854775807) : Calls Try.prog 29 #[.int .i64 n] w fun e w' => e = .returned (.int .i64 (absI n)) ∧ w = w' := by
  by_cases h : n < 0
  · have e1 := Lib.hid (show absI n = -(n + 1) from if_pos h)
    go_enter Try.func29, Try.ntmps29
    go_wp2_with fail
    go_ret
    exact ⟨ret_int e1.out.symm, rfl⟩
  · have e1 := Lib.hid (show absI n = n from if_neg h)
    go_enter Try.func29, Try.ntmps29
    go_wp2_with fail
    go_ret
    exact ⟨ret_int e1.out.symm, rfl⟩

theorem abs29 (n a : Int) (w : World) (h0 : -9223372036854775808 ≤ n) (h1 : n ≤ 9223372036854775807) (ha : absI n = a) : Calls Try.prog 29 #[.int .i64 n] w fun e w' => e = .returned (.int .i64 a) ∧ w = w' := by
  subst ha
  exact abs29_any n w h0 h1


/-! ### a map that the call has made -/
structure DfIn (w wr : World) (db pb : Nat) (keys most : Int) (D : Df) (O : Nat → Prop) : Prop where
  df : DfAt wr db pb keys most D O
  keep : Keeps Nil w wr
  new : ∀ k, O k → w.heap.size ≤ k
theorem DfIn.step {wr w5 : World} {r e : Ending} (h : DfIn w wr db pb keys most D O) (hc : DfOut wr db pb keys most O r D' e w5) :
    e = r ∧ ∃ O', DfIn w w5 db pb keys most D' O' ∧ Keeps O wr w5 ∧ ∀ g, g < wr.heap.size → ¬ O g → ¬ O' g := by
  obtain ⟨h1, O', h2, h3, h4⟩ := hc
  refine ⟨h1, O', ⟨h2, h.keep.trans' h3 (fun j hj => .inr (h.new j hj)), fun k hk => ?_⟩, h3, fun g hg hn ho => ?_⟩
  · rcases h4 k hk with h5 | h5
    · exact h.new k h5
    · have := h.keep.size; omega
  · rcases h4 g ho with h5 | h5
    · exact hn h5
    · omega
theorem DfIn.nil {wr w5 : World} (h : DfIn w wr db pb keys most D O) (hk : Keeps Nil wr w5) : DfIn w w5 db pb keys most D O := ⟨h.df.keeps hk (fun _ _ h => h), h.keep.trans hk, h.new⟩
theorem DfIn.other {wr w5 : World} {tb : Nat} (h : DfIn w wr db pb keys most D O) (hk : Keeps (· = tb) wr w5) (ht : w.heap.size ≤ tb) (hn : ¬ O tb) : DfIn w w5 db pb keys most D O :=
  ⟨h.df.keeps hk (fun k hk e => hn (by rw [← e]; exact hk)), h.keep.trans' hk (fun j hj => .inr (by rw [hj]; exact ht)), h.new⟩

/-! ### how often the pager is asked; where it makes no error -/
theorem put_lt {D : Df} {b : Nat} {x : Ent} (h : D.P.Lt b) : (D.put most x).2.P.Lt (b + 2) := by
  unfold Df.put
  split
  · split
    · exact store_lt h _
    · exact store_lt h _
  · exact h.mono (Nat.le_add_right _ _)
theorem set_lt {D : Df} {b : Nat} {k n : Int} (h : D.P.Lt b) : (D.set most k n).2.P.Lt (b + 2) := by
  unfold Df.set
  split
  · exact h.mono (Nat.le_add_right _ _)
  · exact put_lt h
theorem get_lt {D : Df} {b : Nat} {k : Int} (h : D.P.Lt b) : (D.getD most k).P.Lt (b + 3) := by
  unfold Df.getD
  split
  · exact h.mono (Nat.le_add_right _ _)
  · split
    · exact h.loaded.mono (by omega)
    · exact (put_lt (D := D.loaded) (most := most) (x := ⟨k, D.P.at k, false⟩) h.loaded).mono (by omega)
theorem flush_lt : ∀ (l : List Ent) {D : Df} {b : Nat}, D.P.Lt b → (Df.flush l D).2.P.Lt (b + 2 * l.length)
  | [], D, b, h => h
  | x :: r, D, b, h => by
    rw [Df.flush]
    split
    · split
      · exact (flush_lt r (store_lt h _)).mono (by simp; omega)
      · exact (store_lt h _).mono (by simp; omega)
    · exact (flush_lt r h).mono (by simp; omega)
structure Df.Calm (D : Df) : Prop where
  every : D.P.every = 0
theorem Df.Calm.fails {D : Df} (h : D.Calm) : D.P.fails = false := by unfold Pg.fails; rw [h.every]; rfl
theorem Df.Calm.store {D : Df} (h : D.Calm) (n : Int) : (D.store n).1 = 0 ∧ (D.store n).2.Calm := by
  have h2 : D.loaded.P.fails = false := Df.Calm.fails (D := D.loaded) ⟨h.every⟩
  unfold Df.store
  rw [h.fails, if_neg (by decide), show D.P.loaded.fails = false from h2, if_neg (by decide)]
  exact ⟨rfl, ⟨h.every⟩⟩
theorem Df.Calm.put {D : Df} (h : D.Calm) (x : Ent) : (D.put most x).1 = 0 ∧ (D.put most x).2.Calm := by
  unfold Df.put
  by_cases hm : D.must most = true
  · rw [if_pos hm]
    obtain ⟨h1, h2⟩ := h.store ((D.L.getLastD ent0).key / (D.P.per : Int))
    rw [if_pos h1]
    exact ⟨rfl, ⟨h2.every⟩⟩
  · rw [if_neg hm]
    exact ⟨rfl, ⟨h.every⟩⟩
theorem Df.Calm.set {D : Df} (h : D.Calm) (k n : Int) : (D.set most k n).1 = 0 ∧ (D.set most k n).2.Calm := by
  unfold Df.set
  split
  · exact ⟨rfl, ⟨h.every⟩⟩
  · exact h.put _
theorem Df.Calm.get {D : Df} (h : D.Calm) (k : Int) : D.getC most k = 0 ∧ (D.getD most k).Calm := by
  unfold Df.getC Df.getD
  split
  · exact ⟨rfl, ⟨h.every⟩⟩
  · rw [h.fails, if_neg (by decide), if_neg (by decide)]
    exact Df.Calm.put (D := D.loaded) ⟨h.every⟩ _
theorem Df.Calm.flush : ∀ (l : List Ent) {D : Df}, D.Calm → (Df.flush l D).1 = 0 ∧ (Df.flush l D).2.Calm
  | [], D, h => ⟨rfl, h⟩
  | x :: r, D, h => by
    rw [Df.flush]
    by_cases hd : (lent x.key D.L).dirty = true
    · rw [if_pos hd]
      obtain ⟨h1, h2⟩ := h.store (x.key / (D.P.per : Int))
      rw [if_pos h1]
      exact Df.Calm.flush r h2
    · rw [if_neg hd]
      exact Df.Calm.flush r h
theorem ok_new {per : Nat} {first : List Int} (hp : 1 ≤ per) (hm : 1 ≤ most) : Df.Ok keys most ⟨pgNew per first, []⟩ :=
  ⟨hp, List.nodup_nil, by simp; omega, (fun e he => by cases he), (fun e he => by cases he), pgNew_len per first⟩
end Go.Proofs.Ytnickcjkipemmaa
