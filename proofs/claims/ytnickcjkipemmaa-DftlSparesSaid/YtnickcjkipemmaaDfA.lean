/- a map whose pages lie elsewhere, on lists: what its calls do, and what stays -/
import Derived.Test.YtnickcjkipemmaaCleanX
import Derived.Test.YtnickcjkipemmaaDrops
namespace Go.Proofs.Ytnickcjkipemmaa
open Go.RowKit

/-! ### the pager -/
structure Pg where
  per : Nat
  pages : Int → List Int
  calls : Nat
  every : Int
  bad : Int
  loads : Nat
  stores : Nat
  last : Int
  was : List Int
def Pg.fails (P : Pg) : Bool := decide (0 < P.every) && ((((P.calls : Int) + 1) % P.every) == P.bad)
def Pg.tick (P : Pg) : Pg := { P with calls := P.calls + 1 }
def Pg.loaded (P : Pg) : Pg := { P with loads := P.loads + 1, calls := P.calls + 1 }
def Pg.storeBad (P : Pg) : Pg := { P with stores := P.stores + 1, calls := P.calls + 1 }
def Pg.stored (P : Pg) (n : Int) (l : List Int) : Pg :=
  { P with stores := P.stores + 1, calls := P.calls + 1, last := n, was := P.pages n, pages := fun i => if i = n then l else P.pages i }
def Pg.at (P : Pg) (k : Int) : Int := (P.pages (k / (P.per : Int))).getD (k % (P.per : Int)).toNat 0

/-! ### the map -/
structure Df where
  P : Pg
  L : List Ent
def Df.page (D : Df) (n : Int) : List Int := (List.range D.P.per).map fun (i : Nat) =>
  match lget (n * (D.P.per : Int) + (i : Int)) D.L with
  | some e => if e.dirty then e.val else (D.P.pages n).getD i 0
  | none => (D.P.pages n).getD i 0
def Df.loaded (D : Df) : Df := ⟨D.P.loaded, D.L⟩
def Df.store (D : Df) (n : Int) : Int × Df :=
  if D.P.fails then (200, D.loaded)
  else if D.P.loaded.fails then (201, ⟨D.P.loaded.storeBad, D.L⟩)
  else (0, ⟨D.P.loaded.stored n (D.page n), lclr (n * (D.P.per : Int)) ((n + 1) * (D.P.per : Int)) D.L⟩)
/-- must a page be brought, for an entry to go? -/
def Df.must (most : Int) (D : Df) : Bool := decide ((D.L.length : Int) = most) && (D.L.getLastD ent0).dirty
def Df.ins (most : Int) (x : Ent) (D : Df) : Df := ⟨D.P, lput most x D.L⟩
def Df.put (most : Int) (x : Ent) (D : Df) : Int × Df :=
  if D.must most then
    if (D.store ((D.L.getLastD ent0).key / (D.P.per : Int))).1 = 0 then (0, (D.store ((D.L.getLastD ent0).key / (D.P.per : Int))).2.ins most x)
    else D.store ((D.L.getLastD ent0).key / (D.P.per : Int))
  else (0, D.ins most x)
def Df.getC (most k : Int) (D : Df) : Int :=
  if lhas k D.L then 0 else if D.P.fails then 200 else (D.loaded.put most ⟨k, D.P.at k, false⟩).1
def Df.getV (most k : Int) (D : Df) : Int :=
  if lhas k D.L then lval k D.L else if D.P.fails then 0 else if (D.loaded.put most ⟨k, D.P.at k, false⟩).1 = 0 then D.P.at k else 0
def Df.getD (most k : Int) (D : Df) : Df :=
  if lhas k D.L then ⟨D.P, lfront k D.L⟩ else if D.P.fails then D.loaded else (D.loaded.put most ⟨k, D.P.at k, false⟩).2
def Df.set (most k n : Int) (D : Df) : Int × Df :=
  if lhas k D.L then (0, ⟨D.P, lput most ⟨k, n, true⟩ (lfront k D.L)⟩) else D.put most ⟨k, n, true⟩
def Df.flush : List Ent → Df → Int × Df
  | [], D => (0, D)
  | x :: r, D => if (lent x.key D.L).dirty then
      if (D.store (x.key / (D.P.per : Int))).1 = 0 then Df.flush r (D.store (x.key / (D.P.per : Int))).2 else D.store (x.key / (D.P.per : Int))
    else Df.flush r D
def Df.cur (D : Df) (k : Int) : Int := match lget k D.L with | some e => e.val | none => D.P.at k

/-! ### what stays -/
structure Df.Ok (keys most : Int) (D : Df) : Prop where
  per : 0 < D.P.per
  nodup : (D.L.map (·.key)).Nodup
  len : (D.L.length : Int) ≤ most
  key : ∀ e ∈ D.L, 0 ≤ e.key ∧ e.key < keys
  clean : ∀ e ∈ D.L, e.dirty = false → D.P.at e.key = e.val
  pages : ∀ n, (D.P.pages n).length = D.P.per

theorem lget_mem {k : Int} {e : Ent} : ∀ {L : List Ent}, lget k L = some e → e ∈ L ∧ e.key = k
  | [], h => by cases h
  | x :: r, h => by
    rw [lget] at h
    by_cases hk : x.key = k
    · rw [if_pos hk] at h; cases h; exact ⟨by simp, hk⟩
    · rw [if_neg hk] at h
      have := lget_mem h
      exact ⟨List.mem_cons_of_mem _ this.1, this.2⟩
theorem lget_of_mem {e : Ent} : ∀ {L : List Ent}, (L.map (·.key)).Nodup → e ∈ L → lget e.key L = some e
  | [], _, h => by cases h
  | x :: r, hn, h => by
    rw [List.map_cons, List.nodup_cons] at hn
    rw [lget]
    rcases List.mem_cons.1 h with rfl | h
    · rw [if_pos rfl]
    · have : x.key ≠ e.key := fun hk => hn.1 (by rw [hk]; exact List.mem_map_of_mem h)
      rw [if_neg this]; exact lget_of_mem hn.2 h
theorem lget_map {k : Int} {f : Ent → Ent} (hf : ∀ e, (f e).key = e.key) : ∀ L : List Ent, lget k (L.map f) = (lget k L).map f
  | [] => rfl
  | x :: r => by
    rw [List.map_cons, lget, lget, hf, lget_map hf r]
    split <;> rfl
theorem clrE_key (lo hi : Int) (e : Ent) : (clrE lo hi e).key = e.key := by unfold clrE; split <;> rfl
theorem clrE_val (lo hi : Int) (e : Ent) : (clrE lo hi e).val = e.val := by unfold clrE; split <;> rfl
theorem lclr_keys (lo hi : Int) (L : List Ent) : (lclr lo hi L).map (·.key) = L.map (·.key) := by
  unfold lclr; rw [List.map_map]; exact List.map_congr_left fun e _ => clrE_key lo hi e
theorem lclr_len (lo hi : Int) (L : List Ent) : (lclr lo hi L).length = L.length := by simp [lclr]
theorem lget_lclr (lo hi k : Int) (L : List Ent) : lget k (lclr lo hi L) = (lget k L).map (clrE lo hi) := lget_map (clrE_key lo hi) L
theorem lhas_keys {k : Int} {L L' : List Ent} (h : L.map (·.key) = L'.map (·.key)) : lhas k L = lhas k L' := by
  cases hx : lhas k L'
  · rw [lhas_false] at hx ⊢; rw [h]; exact hx
  · rw [lhas_true] at hx ⊢; rw [h]; exact hx
theorem lget_none_iff {k : Int} {L : List Ent} : lget k L = none ↔ lhas k L = false := by unfold lhas; cases lget k L <;> simp
theorem lget_ldel_other {k j : Int} (h : j ≠ k) : ∀ L : List Ent, lget j (ldel k L) = lget j L
  | [] => rfl
  | x :: r => by
    rw [ldel]
    by_cases hk : x.key = k
    · rw [if_pos hk, lget, if_neg (fun e => h (e.symm.trans hk))]
    · rw [if_neg hk, lget, lget, lget_ldel_other h r]
theorem lget_dropLast {j : Int} : ∀ {L : List Ent}, j ≠ (L.getLastD ent0).key → lget j L.dropLast = lget j L
  | [], _ => rfl
  | [x], h => by
    simp only [List.getLastD_cons, List.getLastD_nil] at h
    rw [List.dropLast_singleton, lget, lget, if_neg (fun e => h e.symm), lget]
  | x :: y :: r, h => by
    rw [List.dropLast_cons_cons, lget, lget]
    by_cases hk : x.key = j
    · rw [if_pos hk, if_pos hk]
    · rw [if_neg hk, if_neg hk]
      exact lget_dropLast (by simpa [List.getLastD_cons] using h)
theorem lget_dropLast_last {L : List Ent} (hn : (L.map (·.key)).Nodup) : lget (L.getLastD ent0).key L.dropLast = none := by
  rcases List.eq_nil_or_concat L with rfl | ⟨M, x, rfl⟩
  · rfl
  · rw [List.concat_eq_append] at hn ⊢
    simp only [List.dropLast_concat, List.getLastD_concat]
    rw [lget_none_iff, lhas_false]
    rw [List.map_append, List.nodup_append] at hn
    intro hm
    exact hn.2.2 _ hm _ (by simp) rfl

theorem getLastD_mem {L : List Ent} (h : L ≠ []) : L.getLastD ent0 ∈ L := by
  rw [List.getLastD_eq_getLast?, List.getLast?_eq_some_getLast h]
  exact List.getLast_mem h
theorem in_page {per k n : Int} (hp : 0 < per) : (n * per ≤ k ∧ k < (n + 1) * per) ↔ k / per = n := by
  have h1 := Int.mul_ediv_add_emod k per
  have h2 := Int.emod_nonneg k (Int.ne_of_gt hp)
  have h3 := Int.emod_lt_of_pos k hp
  have e1 : (n + 1) * per = n * per + per := by rw [Int.add_mul, Int.one_mul]
  constructor
  · rintro ⟨a, b⟩
    refine Int.le_antisymm ?_ ?_
    · have : k / per < n + 1 := Int.ediv_lt_of_lt_mul hp b
      omega
    · exact Int.le_ediv_of_mul_le hp a
  · rintro rfl
    rw [e1, Int.mul_comm (k / per) per]
    omega

theorem Df.page_get {D : Df} {n : Int} {i : Nat} (hi : i < D.P.per) : (D.page n).getD i 0 = match lget (n * (D.P.per : Int) + (i : Int)) D.L with
  | some e => if e.dirty then e.val else (D.P.pages n).getD i 0
  | none => (D.P.pages n).getD i 0 := by
  unfold Df.page
  simp only [List.getD_eq_getElem?_getD, List.getElem?_map, List.getElem?_range hi, Option.map_some, Option.getD_some]
theorem Df.page_len (D : Df) (n : Int) : (D.page n).length = D.P.per := by simp [Df.page]

/-- a page that was brought: numbers at its keys, and elsewhere -/
theorem Pg.at_stored {D : Df} {n k : Int} (hp : 0 < D.P.per) : (D.P.loaded.stored n (D.page n)).at k =
    if k / (D.P.per : Int) = n then (match lget k D.L with | some e => if e.dirty then e.val else D.P.at k | none => D.P.at k) else D.P.at k := by
  have hp' : (0 : Int) < (D.P.per : Int) := by omega
  unfold Pg.at
  show (if k / (D.P.per : Int) = n then D.page n else D.P.pages (k / (D.P.per : Int))).getD (k % (D.P.per : Int)).toNat 0 = _
  by_cases h : k / (D.P.per : Int) = n
  · rw [if_pos h, if_pos h]
    have h2 := Int.emod_nonneg k (Int.ne_of_gt hp')
    have h3 := Int.emod_lt_of_pos k hp'
    have h1 := Int.mul_ediv_add_emod k (D.P.per : Int)
    rw [Df.page_get (by omega), h]
    rw [show n * (D.P.per : Int) + ((k % (D.P.per : Int)).toNat : Int) = k by rw [Int.toNat_of_nonneg h2, ← h, Int.mul_comm]; exact h1]
  · rw [if_neg h, if_neg h]

theorem Df.last_mem {most : Int} {D : Df} (hm : D.must most = true) (h1 : 1 ≤ most) : D.L.getLastD ent0 ∈ D.L ∧ (D.L.length : Int) = most ∧ (D.L.getLastD ent0).dirty = true := by
  unfold Df.must at hm
  simp only [Bool.and_eq_true, decide_eq_true_eq] at hm
  refine ⟨?_, hm.1, hm.2⟩
  cases hl : D.L with
  | nil => rw [hl] at hm; simp at hm; omega
  | cons x r => exact getLastD_mem (by simp)

theorem Df.Ok.loaded {keys most : Int} {D : Df} (h : D.Ok keys most) : D.loaded.Ok keys most := ⟨h.per, h.nodup, h.len, h.key, h.clean, h.pages⟩
theorem Df.Ok.clr {keys most : Int} {D : Df} (h : D.Ok keys most) (n : Int) :
    Df.Ok keys most ⟨D.P.loaded.stored n (D.page n), lclr (n * (D.P.per : Int)) ((n + 1) * (D.P.per : Int)) D.L⟩ := by
  have hp' : (0 : Int) < (D.P.per : Int) := by have := h.per; omega
  refine ⟨h.per, ?_, ?_, ?_, ?_, ?_⟩
  · show ((lclr _ _ D.L).map (·.key)).Nodup
    rw [lclr_keys]; exact h.nodup
  · show ((lclr _ _ D.L).length : Int) ≤ most
    rw [lclr_len]; exact h.len
  · intro e he
    obtain ⟨x, hx, rfl⟩ := List.mem_map.1 (show e ∈ D.L.map _ from he)
    rw [clrE_key]; exact h.key x hx
  · intro e he hd
    obtain ⟨x, hx, rfl⟩ := List.mem_map.1 (show e ∈ D.L.map _ from he)
    show (D.P.loaded.stored n (D.page n)).at (clrE _ _ x).key = (clrE _ _ x).val
    rw [clrE_key, clrE_val, Pg.at_stored h.per, lget_of_mem h.nodup hx]
    simp only
    by_cases hxd : x.dirty = true
    · have hin : inR (n * (D.P.per : Int)) ((n + 1) * (D.P.per : Int)) x = true := by
        cases hi : inR (n * (D.P.per : Int)) ((n + 1) * (D.P.per : Int)) x with
        | true => rfl
        | false => unfold clrE at hd; rw [hi] at hd; simp [hxd] at hd
      unfold inR at hin
      simp only [Bool.and_eq_true, decide_eq_true_eq] at hin
      rw [if_pos ((in_page hp').1 ⟨hin.1.2, hin.2⟩), if_pos hxd]
    · rw [if_neg hxd, ite_self]
      exact h.clean x hx (by simpa using hxd)
  · intro i
    show (if i = n then D.page n else D.P.pages i).length = D.P.per
    by_cases hi : i = n
    · rw [if_pos hi]; exact D.page_len n
    · rw [if_neg hi]; exact h.pages i
theorem Df.cur_clr {keys most : Int} {D : Df} (h : D.Ok keys most) (n k : Int) :
    Df.cur ⟨D.P.loaded.stored n (D.page n), lclr (n * (D.P.per : Int)) ((n + 1) * (D.P.per : Int)) D.L⟩ k = D.cur k := by
  unfold Df.cur
  simp only
  rw [lget_lclr]
  cases hg : lget k D.L with
  | some e => exact clrE_val _ _ e
  | none =>
    show (D.P.loaded.stored n (D.page n)).at k = D.P.at k
    rw [Pg.at_stored h.per, hg]
    simp only [ite_self]

/-- bringing a page -/
theorem Df.Ok.store {keys most : Int} {D : Df} (h : D.Ok keys most) (n : Int) :
    (D.store n).2.Ok keys most ∧ (∀ k, (D.store n).2.cur k = D.cur k) ∧ (D.store n).2.L.map (·.key) = D.L.map (·.key) ∧ (D.store n).2.P.per = D.P.per := by
  unfold Df.store
  by_cases h1 : D.P.fails = true
  · rw [if_pos h1]; exact ⟨h.loaded, fun _ => rfl, rfl, rfl⟩
  · rw [if_neg h1]
    by_cases h2 : D.P.loaded.fails = true
    · rw [if_pos h2]; exact ⟨⟨h.per, h.nodup, h.len, h.key, h.clean, h.pages⟩, fun _ => rfl, rfl, rfl⟩
    · rw [if_neg h2]; exact ⟨h.clr n, Df.cur_clr h n, lclr_keys _ _ _, rfl⟩
/-- .. behind it no entry of the page has changed; the others are as they were -/
theorem Df.store_clean {keys most : Int} {D : Df} (h : D.Ok keys most) {n : Int} (h0 : (D.store n).1 = 0) :
    (∀ e ∈ (D.store n).2.L, e.key / (D.P.per : Int) = n → e.dirty = false) ∧ (∀ e ∈ (D.store n).2.L, e.dirty = true → e ∈ D.L) := by
  have hp' : (0 : Int) < (D.P.per : Int) := by have := h.per; omega
  unfold Df.store at h0 ⊢
  by_cases h1 : D.P.fails = true
  · rw [if_pos h1] at h0; exact absurd h0 (fun e => by cases e)
  · rw [if_neg h1] at h0 ⊢
    by_cases h2 : D.P.loaded.fails = true
    · rw [if_pos h2] at h0; exact absurd h0 (fun e => by cases e)
    · rw [if_neg h2]
      refine ⟨fun e he hk => ?_, fun e he hd => ?_⟩
      · obtain ⟨x, hx, rfl⟩ := List.mem_map.1 (show e ∈ D.L.map _ from he)
        rw [clrE_key] at hk
        have hb := (in_page hp').2 hk
        cases hd : x.dirty with
        | true =>
          have hin : inR (n * (D.P.per : Int)) ((n + 1) * (D.P.per : Int)) x = true := by simp [inR, hd, hb.1, hb.2]
          unfold clrE; rw [if_pos hin]
        | false => unfold clrE; split <;> simp_all
      · obtain ⟨x, hx, rfl⟩ := List.mem_map.1 (show e ∈ D.L.map _ from he)
        unfold clrE at hd ⊢
        split at hd
        · cases hd
        · rename_i hn; rw [if_neg hn]; exact hx

/-! ### an entry that is put -/
theorem Df.Ok.ins {keys most : Int} {D : Df} (h : D.Ok keys most) (hm : 1 ≤ most) {x : Ent} (hk : 0 ≤ x.key ∧ x.key < keys) (hx : x.dirty = false → D.P.at x.key = x.val)
    (hnew : lhas x.key D.L = false) (hlast : (D.L.length : Int) = most → (D.L.getLastD ent0).dirty = false) :
    (D.ins most x).Ok keys most ∧ (∀ k, (D.ins most x).cur k = if k = x.key then x.val else D.cur k) := by
  have hg := lget_none_iff.2 hnew
  have hn := lhas_false.1 hnew
  unfold Df.ins lput
  rw [hg]
  simp only
  by_cases hf : (D.L.length : Int) = most
  · rw [if_pos hf]
    have hne : D.L ≠ [] := by intro e; rw [e] at hf; simp at hf; omega
    refine ⟨⟨h.per, ?_, ?_, ?_, ?_, h.pages⟩, fun k => ?_⟩
    · rw [List.map_cons, List.nodup_cons]
      refine ⟨fun hm => hn ?_, h.nodup.sublist ((List.dropLast_sublist _).map _)⟩
      obtain ⟨y, hy, hyk⟩ := List.mem_map.1 hm
      exact List.mem_map.2 ⟨y, List.dropLast_subset _ hy, hyk⟩
    · simp only [List.length_cons, List.length_dropLast]
      have := List.length_pos_iff.2 hne
      omega
    · intro e he
      rcases List.mem_cons.1 he with rfl | he
      · exact hk
      · exact h.key e (List.dropLast_subset _ he)
    · intro e he hd
      rcases List.mem_cons.1 he with rfl | he
      · exact hx hd
      · exact h.clean e (List.dropLast_subset _ he) hd
    · unfold Df.cur
      simp only
      rw [lget]
      by_cases hkx : x.key = k
      · rw [if_pos hkx, if_pos hkx.symm]
      · rw [if_neg hkx, if_neg (Ne.symm hkx)]
        by_cases hl : k = (D.L.getLastD ent0).key
        · have hmem : D.L.getLastD ent0 ∈ D.L := by
            cases hl : D.L with
            | nil => exact absurd hl hne
            | cons y r => exact getLastD_mem (by simp)
          rw [hl, lget_dropLast_last h.nodup, lget_of_mem h.nodup hmem]
          exact h.clean _ hmem (hlast hf)
        · rw [lget_dropLast hl]
  · rw [if_neg hf]
    refine ⟨⟨h.per, ?_, ?_, ?_, ?_, h.pages⟩, fun k => ?_⟩
    · rw [List.map_cons, List.nodup_cons]; exact ⟨hn, h.nodup⟩
    · simp only [List.length_cons]; have := h.len; omega
    · intro e he
      rcases List.mem_cons.1 he with rfl | he
      · exact hk
      · exact h.key e he
    · intro e he hd
      rcases List.mem_cons.1 he with rfl | he
      · exact hx hd
      · exact h.clean e he hd
    · unfold Df.cur
      simp only
      rw [lget]
      by_cases hkx : x.key = k
      · rw [if_pos hkx, if_pos hkx.symm]
      · rw [if_neg hkx, if_neg (Ne.symm hkx)]

theorem Df.Ok.put {keys most : Int} {D : Df} (h : D.Ok keys most) (hm : 1 ≤ most) {x : Ent} (hk : 0 ≤ x.key ∧ x.key < keys) (hx : x.dirty = false → D.cur x.key = x.val)
    (hnew : lhas x.key D.L = false) :
    (D.put most x).2.Ok keys most ∧ (D.put most x).2.P.per = D.P.per ∧ ((D.put most x).1 = 0 → ∀ k, (D.put most x).2.cur k = if k = x.key then x.val else D.cur k) ∧ ((D.put most x).1 ≠ 0 → ∀ k, (D.put most x).2.cur k = D.cur k) := by
  have hcur : ∀ D' : Df, lhas x.key D'.L = false → D'.cur x.key = D'.P.at x.key := fun D' h' => by unfold Df.cur; rw [lget_none_iff.2 h']
  unfold Df.put
  by_cases hmust : D.must most = true
  · rw [if_pos hmust]
    obtain ⟨hl1, hl2, hl3⟩ := Df.last_mem hmust hm
    obtain ⟨s1, s2, s3, s4⟩ := h.store ((D.L.getLastD ent0).key / (D.P.per : Int))
    by_cases h0 : (D.store ((D.L.getLastD ent0).key / (D.P.per : Int))).1 = 0
    · rw [if_pos h0]
      obtain ⟨c1, c2⟩ := Df.store_clean h h0
      have hnew' : lhas x.key (D.store ((D.L.getLastD ent0).key / (D.P.per : Int))).2.L = false := by rw [lhas_keys s3]; exact hnew
      have hlast : ((D.store ((D.L.getLastD ent0).key / (D.P.per : Int))).2.L.length : Int) = most → ((D.store ((D.L.getLastD ent0).key / (D.P.per : Int))).2.L.getLastD ent0).dirty = false := by
        intro hlen
        generalize D.store ((D.L.getLastD ent0).key / (D.P.per : Int)) = R at *
        have hne : R.2.L ≠ [] := by intro e; rw [e] at hlen; simp at hlen; omega
        have hmem : R.2.L.getLastD ent0 ∈ R.2.L := by
          cases hl : R.2.L with
          | nil => exact absurd hl hne
          | cons y r => exact getLastD_mem (by simp)
        refine c1 _ hmem ?_
        have hkl : (R.2.L.getLastD ent0).key = (D.L.getLastD ent0).key := by
          have e : ∀ L : List Ent, (L.getLastD ent0).key = (L.map (·.key)).getLastD 0 := by
            intro L
            induction L with
            | nil => rfl
            | cons y r ih => cases r with
              | nil => rfl
              | cons z t => simpa [List.getLastD_cons] using ih
          rw [e, e, s3]
        rw [hkl]
      obtain ⟨i1, i2⟩ := s1.ins hm hk (fun hd => by rw [← hcur _ hnew', s2]; exact hx hd) hnew' hlast
      refine ⟨i1, s4, fun _ k => ?_, fun hc => absurd rfl hc⟩
      rw [i2]
      split
      · rfl
      · exact s2 k
    · rw [if_neg h0]
      exact ⟨s1, s4, fun hc => absurd hc h0, fun _ => s2⟩
  · rw [if_neg hmust]
    have hlast : (D.L.length : Int) = most → (D.L.getLastD ent0).dirty = false := by
      intro hl
      unfold Df.must at hmust
      simp only [Bool.and_eq_true, decide_eq_true_eq, not_and, Bool.not_eq_true] at hmust
      exact hmust hl
    obtain ⟨i1, i2⟩ := h.ins hm hk (fun hd => by rw [← hcur D hnew]; exact hx hd) hnew hlast
    exact ⟨i1, rfl, fun _ => i2, fun hc => absurd rfl hc⟩

theorem Df.cur_loaded (D : Df) (k : Int) : D.loaded.cur k = D.cur k := rfl
theorem lfront_perm {k : Int} {L : List Ent} : (lfront k L).Perm L := by
  unfold lfront
  cases hg : lget k L with
  | none => exact List.Perm.refl _
  | some e =>
    simp only
    induction L with
    | nil => cases hg
    | cons x r ih =>
      rw [lget] at hg
      rw [ldel]
      by_cases hk : x.key = k
      · rw [if_pos hk] at hg; cases hg; rw [if_pos hk]
      · rw [if_neg hk] at hg; rw [if_neg hk]
        exact (List.Perm.swap x e _).trans ((ih hg).cons x)
theorem lget_front {k j : Int} {L : List Ent} : lget j (lfront k L) = lget j L := by
  unfold lfront
  cases hg : lget k L with
  | none => rfl
  | some e =>
    have he := lget_mem hg
    simp only
    rw [lget]
    by_cases hk : e.key = j
    · rw [if_pos hk, ← hk, he.2, hg]
    · rw [if_neg hk, lget_ldel_other (by rw [← he.2]; exact Ne.symm hk)]
theorem Df.Ok.front {keys most : Int} {D : Df} (h : D.Ok keys most) (k : Int) : Df.Ok keys most ⟨D.P, lfront k D.L⟩ := by
  have hp := lfront_perm (k := k) (L := D.L)
  refine ⟨h.per, (hp.map _).nodup_iff.2 h.nodup, ?_, fun e he => h.key e (hp.mem_iff.1 he), fun e he => h.clean e (hp.mem_iff.1 he), h.pages⟩
  show ((lfront k D.L).length : Int) ≤ most
  rw [hp.length_eq]; exact h.len
theorem Df.cur_front (D : Df) (k j : Int) : Df.cur ⟨D.P, lfront k D.L⟩ j = D.cur j := by
  unfold Df.cur
  simp only
  rw [lget_front]

/-- a key's number is asked for -/
theorem Df.Ok.get {keys most : Int} {D : Df} (h : D.Ok keys most) (hm : 1 ≤ most) {k : Int} (hk : 0 ≤ k ∧ k < keys) :
    (D.getD most k).Ok keys most ∧ (D.getD most k).P.per = D.P.per ∧ (∀ j, (D.getD most k).cur j = D.cur j) ∧ (D.getC most k = 0 → D.getV most k = D.cur k) ∧ (D.getC most k ≠ 0 → D.getV most k = 0) := by
  unfold Df.getD Df.getC Df.getV
  cases hh : lhas k D.L with
  | true =>
    simp only [if_true]
    refine ⟨h.front k, by first | rfl | trivial, D.cur_front k, fun _ => ?_, fun hc => absurd rfl hc⟩
    unfold lval Df.cur
    cases hg : lget k D.L with
    | some e => rfl
    | none => rw [lget_none_iff] at hg; rw [hg] at hh; cases hh
  | false =>
    simp only [Bool.false_eq_true, if_false]
    have hck : D.cur k = D.P.at k := by unfold Df.cur; rw [lget_none_iff.2 hh]
    by_cases hf : D.P.fails = true
    · simp only [if_pos hf]
      exact ⟨h.loaded, by first | rfl | trivial, D.cur_loaded, fun hc => absurd hc (fun e => by cases e), fun _ => by first | rfl | trivial⟩
    · simp only [if_neg hf]
      obtain ⟨p1, p2, p3, p4⟩ := h.loaded.put (x := ⟨k, D.P.at k, false⟩) hm hk (fun _ => hck) hh
      refine ⟨p1, p2, fun j => ?_, fun hc => ?_, fun hc => ?_⟩
      · by_cases hc : (D.loaded.put most ⟨k, D.P.at k, false⟩).1 = 0
        · rw [p3 hc]
          split
          · rename_i e; rw [e]; exact hck.symm
          · rfl
        · exact p4 hc j
      · rw [if_pos hc]; exact hck.symm
      · rw [if_neg hc]

/-- a key is given a number -/
theorem Df.Ok.set {keys most : Int} {D : Df} (h : D.Ok keys most) (hm : 1 ≤ most) {k n : Int} (hk : 0 ≤ k ∧ k < keys) :
    (D.set most k n).2.Ok keys most ∧ (D.set most k n).2.P.per = D.P.per ∧ ((D.set most k n).1 = 0 → ∀ j, (D.set most k n).2.cur j = if j = k then n else D.cur j) ∧ ((D.set most k n).1 ≠ 0 → ∀ j, (D.set most k n).2.cur j = D.cur j) := by
  unfold Df.set
  cases hh : lhas k D.L with
  | true =>
    simp only [if_true]
    obtain ⟨e, hg⟩ : ∃ e, lget k D.L = some e := by
      cases hg : lget k D.L with
      | some e => exact ⟨e, rfl⟩
      | none => rw [lget_none_iff] at hg; rw [hg] at hh; cases hh
    have he := lget_mem hg
    have hfr : lfront k D.L = e :: ldel k D.L := by unfold lfront; rw [hg]
    have hput : lput most ⟨k, n, true⟩ (lfront k D.L) = ⟨k, n, true⟩ :: ldel k D.L := by
      rw [hfr]
      unfold lput
      have h1 : lget (Ent.mk k n true).key (e :: ldel k D.L) = some e := by rw [lget, if_pos he.2]
      have h2 : ldel (Ent.mk k n true).key (e :: ldel k D.L) = ldel k D.L := by rw [ldel, if_pos he.2]
      rw [h1, h2]
      simp
    have hkeys : (ldel k D.L).map (·.key) = (D.L.map (·.key)).erase k := ldel_keys D.L
    rw [hput]
    refine ⟨⟨h.per, ?_, ?_, ?_, ?_, h.pages⟩, (by trivial), fun _ j => ?_, fun hc => absurd rfl hc⟩
    · rw [List.map_cons, List.nodup_cons, hkeys]
      exact ⟨h.nodup.not_mem_erase, h.nodup.erase _⟩
    · have := @ldel_length k D.L
      rw [hh] at this
      simp only [if_true] at this
      have hpos : 0 < D.L.length := List.length_pos_of_mem he.1
      simp only [List.length_cons]
      have := h.len
      omega
    · intro x hx
      rcases List.mem_cons.1 hx with rfl | hx
      · exact hk
      · exact h.key x (ldel_sub hx)
    · intro x hx hd
      rcases List.mem_cons.1 hx with rfl | hx
      · cases hd
      · exact h.clean x (ldel_sub hx) hd
    · unfold Df.cur
      simp only
      rw [lget]
      by_cases hj : k = j
      · rw [if_pos hj, if_pos hj.symm]
      · rw [if_neg hj, if_neg (Ne.symm hj), lget_ldel_other (Ne.symm hj)]
  | false =>
    simp only [Bool.false_eq_true, if_false]
    obtain ⟨p1, p2, p3, p4⟩ := h.put (x := ⟨k, n, true⟩) hm hk (fun hd => by cases hd) hh
    exact ⟨p1, p2, p3, p4⟩

/-! ### all is brought -/
theorem Df.Ok.flush {keys most : Int} : ∀ (l : List Ent) {D : Df}, D.Ok keys most →
    (Df.flush l D).2.Ok keys most ∧ (Df.flush l D).2.P.per = D.P.per ∧ (∀ k, (Df.flush l D).2.cur k = D.cur k) ∧ (Df.flush l D).2.L.map (·.key) = D.L.map (·.key) ∧
    ((Df.flush l D).1 = 0 → ∀ e ∈ (Df.flush l D).2.L, e.dirty = true → e ∈ D.L ∧ e.key ∉ l.map (·.key))
  | [], D, h => ⟨h, rfl, fun _ => rfl, rfl, fun _ e he _ => ⟨he, by simp⟩⟩
  | x :: r, D, h => by
    rw [Df.flush]
    by_cases hd : (lent x.key D.L).dirty = true
    · rw [if_pos hd]
      obtain ⟨s1, s2, s3, s4⟩ := h.store (x.key / (D.P.per : Int))
      by_cases h0 : (D.store (x.key / (D.P.per : Int))).1 = 0
      · rw [if_pos h0]
        obtain ⟨c1, c2⟩ := Df.store_clean h h0
        obtain ⟨f1, f2, f3, f4, f5⟩ := Df.Ok.flush r s1
        refine ⟨f1, f2.trans s4, fun k => (f3 k).trans (s2 k), f4.trans s3, fun hz e he hed => ?_⟩
        obtain ⟨g1, g2⟩ := f5 hz e he hed
        refine ⟨c2 e g1 hed, ?_⟩
        simp only [List.map_cons, List.mem_cons, not_or]
        refine ⟨fun hk => ?_, g2⟩
        have := c1 e g1 (by rw [hk])
        rw [hed] at this; cases this
      · rw [if_neg h0]
        exact ⟨s1, s4, s2, s3, fun hc => absurd hc h0⟩
    · rw [if_neg hd]
      obtain ⟨f1, f2, f3, f4, f5⟩ := Df.Ok.flush r h
      refine ⟨f1, f2, f3, f4, fun hz e he hed => ?_⟩
      obtain ⟨g1, g2⟩ := f5 hz e he hed
      refine ⟨g1, ?_⟩
      simp only [List.map_cons, List.mem_cons, not_or]
      refine ⟨fun hk => hd ?_, g2⟩
      unfold lent
      rw [← hk, lget_of_mem h.nodup g1]
      exact hed
/-- behind a flush without an error the pager has all -/
theorem Df.Ok.flushed {keys most : Int} {D : Df} (h : D.Ok keys most) (h0 : (Df.flush D.L D).1 = 0) (k : Int) : (Df.flush D.L D).2.P.at k = D.cur k := by
  obtain ⟨f1, f2, f3, f4, f5⟩ := Df.Ok.flush D.L h
  rw [← f3 k]
  unfold Df.cur
  cases hg : lget k (Df.flush D.L D).2.L with
  | none => rfl
  | some e =>
    have he := lget_mem hg
    simp only
    rw [← he.2]
    refine f1.clean e he.1 ?_
    cases hd : e.dirty with
    | false => rfl
    | true =>
      obtain ⟨g1, g2⟩ := f5 h0 e he.1 hd
      exact absurd (List.mem_map_of_mem (f := (·.key)) g1) g2
end Go.Proofs.Ytnickcjkipemmaa
