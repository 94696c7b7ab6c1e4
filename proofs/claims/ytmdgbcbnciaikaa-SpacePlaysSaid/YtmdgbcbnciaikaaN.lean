/- Record; made; the search of what is in the way -/
import Derived.Test.YtmdgbcbnciaikaaJ
namespace Go.Proofs.Ytmdgbcbnciaikaa
open Go.RowKit

attribute [local go_sem ↓] Go.wp_at_zero Go.wp_at_succ

/-- a record -/
structure Rec where
  kind : Int
  seq : Int
  a : Int
  b : Int
  c : Int
structure RecOk (r : Rec) : Prop where
  k0 : -9223372036854775808 ≤ r.kind
  k1 : r.kind ≤ 9223372036854775807
  a0 : 0 ≤ r.a
  a1 : r.a < 18446744073709551616
  b0 : 0 ≤ r.b
  b1 : r.b < 18446744073709551616
  c0 : 0 ≤ r.c
  c1 : r.c < 18446744073709551616
def recV (r : Rec) : Value := .agg #[.int .i64 r.kind, .int .u64 r.seq, .int .u64 r.a, .int .u64 r.b, .int .u64 r.c]
def recOf (s : Spc) (gone : Bool) : Rec := if gone then ⟨4, 0, s.id, 0, 0⟩ else ⟨3, 0, s.id, s.size, s.base⟩

set_option maxHeartbeats 4000000 in
theorem record_any {keys : Int} {s : Spc} (h : SpOk keys s) (h1 : 1 ≤ s.id) (h2 : s.id ≤ 16) (hk : keys ≤ 4096) (gone : Bool) (w : World) :
    Calls Try.prog 26 #[spV s, .bool gone] w fun e w' => e = .returned (recV (recOf s gone)) ∧ Keeps Nil w w' := by
  obtain ⟨z1, z2, z3⟩ := h
  obtain ⟨a, b, c⟩ := s
  simp only at z1 z2 z3 h1 h2
  have x1 : IntKind.u64.wrap a = a := by simp [IntKind.wrap, IntKind.signed, IntKind.bits]; omega
  have x2 : IntKind.u64.wrap b = b := by simp [IntKind.wrap, IntKind.signed, IntKind.bits]; omega
  have x3 : IntKind.u64.wrap c = c := by simp [IntKind.wrap, IntKind.signed, IntKind.bits]; omega
  simp only [spV]
  cases gone
  · go_enter Try.func26, Try.ntmps26
    go_wp2_with fail
    exact bodyPost_ret (v := recV (recOf ⟨a, b, c⟩ false)) (by simp [results, Try.results26, go_sem, recV, recOf]) rfl ⟨rfl, ((Keeps.refl Nil w).alloc _).alloc _⟩
  · go_enter Try.func26, Try.ntmps26
    go_wp2_with fail
    exact bodyPost_ret (v := recV (recOf ⟨a, b, c⟩ true)) (by simp [results, Try.results26, go_sem, recV, recOf]) rfl ⟨rfl, ((Keeps.refl Nil w).alloc _).alloc _⟩

/-- do two lie over each other? -/
def over (s x : Spc) : Bool := decide (x.base < s.base + s.size) && decide (s.base < x.base + x.size)
def idxP (p : Spc → Bool) : List Spc → Nat → Int
  | [], _ => -1
  | s :: r, i => if p s = true then (i : Int) else idxP p r (i + 1)
theorem idxP_any (p : Spc → Bool) : ∀ (L : List Spc) (i : Nat), decide (0 ≤ idxP p L i) = L.any p
  | [], _ => by simp [idxP]
  | s :: r, i => by
    unfold idxP
    cases h : p s
    · simp [h, idxP_any p r (i + 1)]
    · simp [h]
theorem idxP_drop (p : Spc → Bool) {T : List Spc} {q : Nat} {s : Spc} (hs : T[q]? = some s) : idxP p (T.drop q) q = if p s = true then (q : Int) else idxP p (T.drop (q + 1)) (q + 1) := by
  obtain ⟨h, e⟩ := List.getElem?_eq_some_iff.1 hs
  rw [List.drop_eq_getElem_cons h, e, idxP]

set_option maxHeartbeats 4000000 in
theorem over40 {w : World} {cb : Nat} {s : Spc} (c1 : w.cell? ⟨cb, 1, none⟩ = some (.int .i64 s.base)) (c2 : w.cell? ⟨cb, 2, none⟩ = some (.int .i64 s.size)) (h0 : 0 ≤ s.base ∧ s.base ≤ 4096 ∧ 0 ≤ s.size ∧ s.size ≤ 4096)
    (x : Spc) (hx : 0 ≤ x.base ∧ x.base ≤ 4096 ∧ 0 ≤ x.size ∧ x.size ≤ 4096) :
    Calls Try.prog 40 #[spV x, .pointer (some ⟨cb, 0, none⟩)] w fun e w' => e = .returned (.bool (over s x)) ∧ Keeps Nil w w' := by
  obtain ⟨a, b, c⟩ := s
  obtain ⟨u, v, y⟩ := x
  simp only at c1 c2 h0 hx
  obtain ⟨p0, p1, p2, p3⟩ := h0
  obtain ⟨q0, q1, q2, q3⟩ := hx
  have x1 : wrap64 (b + c) = b + c := by unfold wrap64; omega
  have x2 : wrap64 (v + y) = v + y := by unfold wrap64; omega
  have d1 := ((Keeps.refl Nil w).alloc (.cells #[.int .i64 u, .int .i64 v, .int .i64 y] 30)).cell c1 (fun h => h)
  have d2 := ((Keeps.refl Nil w).alloc (.cells #[.int .i64 u, .int .i64 v, .int .i64 y] 30)).cell c2 (fun h => h)
  have hcb := lt_of_cell c1
  have hne : ¬ cb = w.heap.size := by omega
  have hne2 : ¬ w.heap.size = cb := by omega
  simp only [spV]
  clear p0 p1 p2 p3 q0 q1 q2 q3 hcb c1 c2
  by_cases g1 : v < b + c
  · by_cases g2 : b < v + y
    · have e : over ⟨a, b, c⟩ ⟨u, v, y⟩ = true := by unfold over; simp [g1, g2]
      rw [e]
      clear e
      go_enter Try.func40, Try.ntmps40
      go_wp2_with fail
      go_ret
      exact ⟨by simp, (Keeps.refl Nil w).alloc _⟩
    · have e : over ⟨a, b, c⟩ ⟨u, v, y⟩ = false := by unfold over; simp [g1, g2]
      rw [e]
      clear e
      go_enter Try.func40, Try.ntmps40
      go_wp2_with fail
      go_ret
      exact ⟨by simp, (Keeps.refl Nil w).alloc _⟩
  · have e : over ⟨a, b, c⟩ ⟨u, v, y⟩ = false := by unfold over; simp [g1]
    rw [e]
    clear e
    go_enter Try.func40, Try.ntmps40
    go_wp2_with fail
    go_ret
    exact ⟨by simp, (Keeps.refl Nil w).alloc _⟩

def Small (x : Spc) : Prop := 0 ≤ x.base ∧ x.base ≤ 4096 ∧ 0 ≤ x.size ∧ x.size ≤ 4096
set_option maxHeartbeats 4000000 in
theorem index38p {w : World} {g cap cb : Nat} {L : List Spc} {s : Spc} (h : SpRow w (some ⟨g, 0, none⟩) cap L) (hlen : L.length ≤ 1000000) (c1 : w.cell? ⟨cb, 1, none⟩ = some (.int .i64 s.base)) (c2 : w.cell? ⟨cb, 2, none⟩ = some (.int .i64 s.size)) (h0 : Small s) (hL : ∀ x ∈ L, Small x) :
    Calls Try.prog 38 #[.slice (some ⟨g, 0, none⟩) L.length cap, .func (.func 40) #[] #[.pointer (some ⟨cb, 0, none⟩)]] w fun e w' => e = .returned (.int .i64 (idxP (over s) L 0)) ∧ Keeps Nil w w' := by
  have h' := Lib.hid h
  obtain ⟨z, hz⟩ : ∃ z, idxP (over s) L 0 = z := ⟨_, rfl⟩
  have hz' := Lib.hid hz
  obtain ⟨n, hn⟩ : ∃ n, L.length = n := ⟨_, rfl⟩
  have hn' := Lib.hid hn
  have hO := Lib.hid (show ∀ W, Keeps Nil w W → ∀ x ∈ L, Calls Try.prog 40 #[spV x, .pointer (some ⟨cb, 0, none⟩)] W fun e w' => e = .returned (.bool (over s x)) ∧ Keeps Nil W w' from fun W hW x hx => over40 (hW.cell c1 (fun h => h)) (hW.cell c2 (fun h => h)) h0 x (hL x hx))
  rw [hz]
  rw [hn] at hlen ⊢
  clear h hz hn c1 c2 h0 hL
  go_enter Try.func38, Try.ntmps38
  go_wp2_with fail
  go_loopw [5, 8] (fun _ c wx => ∃ q : Nat, q ≤ n ∧ c = .int .i64 q ∧ Hid (idxP (over s) (L.drop q) q = z) ∧ Keeps Nil w wx) (fun _ c _ => n - (intOf c).toNat)
  case atStart => exact ⟨0, by omega, rfl, Lib.hid (by simpa using hz'.out), Keeps.refl _ _⟩
  case round =>
    obtain ⟨q, hq, rfl, hI, hK⟩ := hrel
    have hK' := Lib.hid hK
    by_cases hlt : q < n
    · obtain ⟨x, hs⟩ : ∃ x, L[q]? = some x := ⟨_, List.getElem?_eq_getElem (by rw [hn'.out]; exact hlt)⟩
      obtain ⟨c0, c1, c2⟩ := SpRow.cells (h'.out.keeps hK (fun _ _ h => h)) hs
      have hE := Lib.hid (hO.out wr hK x (List.mem_of_getElem? hs))
      have hi := idxP_drop (over s) hs
      rw [hI.out] at hi
      have g1 : (0 : Int) ≤ (q : Int) := by omega
      have g2 : (q : Int) < (n : Int) := by omega
      have hi' := Lib.hid hi
      clear hi hK hs hI
      cases h0 : over s x
      · have e0 : z = idxP (over s) (L.drop (q + 1)) (q + 1) := by have := hi'.out; rw [h0] at this; simpa using this
        have e0' := Lib.hid e0
        rw [h0] at hE
        simp only [spV] at hE
        clear h0 hi' hz' e0
        go_wp2_with fail
        refine (hE.out).mono ?_
        rintro e w2 ⟨rfl, hk2⟩
        have hk2' := Lib.hid hk2
        clear hk2
        go_wp2_with fail
        go_roundw
        case rel => exact ⟨q + 1, by omega, by go_num, Lib.hid e0'.out.symm, hK'.out.trans hk2'.out⟩
        case measure => simp [intOf]; omega
      · have e0 : z = (q : Int) := by have := hi'.out; rw [h0] at this; simpa using this
        have e0' := Lib.hid e0
        rw [h0] at hE
        simp only [spV] at hE
        clear h0 hi' hz' e0
        go_wp2_with fail
        refine (hE.out).mono ?_
        rintro e w2 ⟨rfl, hk2⟩
        have hk2' := Lib.hid hk2
        clear hk2
        go_wp2_with fail
        go_ret
        exact ⟨ret_int e0'.out.symm, hK'.out.trans hk2'.out⟩
    · have hqn : q = n := by omega
      have e : z = -1 := by rw [← hI.out, hqn, ← hn'.out, List.drop_length]; rfl
      have e' := Lib.hid e
      clear hK hI hz' e
      go_wp2_with fail
      go_ret
      exact ⟨ret_int e'.out.symm, hK'.out⟩
set_option maxHeartbeats 4000000 in
theorem contains39 {w : World} {g cap cb : Nat} {L : List Spc} {s : Spc} (h : SpRow w (some ⟨g, 0, none⟩) cap L) (hlen : L.length ≤ 1000000) (c1 : w.cell? ⟨cb, 1, none⟩ = some (.int .i64 s.base)) (c2 : w.cell? ⟨cb, 2, none⟩ = some (.int .i64 s.size)) (h0 : Small s) (hL : ∀ x ∈ L, Small x) :
    Calls Try.prog 39 #[.slice (some ⟨g, 0, none⟩) L.length cap, .func (.func 40) #[] #[.pointer (some ⟨cb, 0, none⟩)]] w fun e w' => e = .returned (.bool (L.any (over s))) ∧ Keeps Nil w w' := by
  have hI := Lib.hid (index38p h hlen c1 c2 h0 hL)
  have hA := Lib.hid (idxP_any (over s) L 0)
  generalize idxP (over s) L 0 = z at hI hA
  generalize L.length = n at hI ⊢
  clear h hlen c1 c2 h0 hL
  go_enter Try.func39, Try.ntmps39
  go_wp2_with fail
  refine (hI.out).mono ?_
  rintro e w1 ⟨rfl, hk⟩
  have hk' := Lib.hid hk
  clear hk hI
  go_wp2_with fail
  go_ret
  exact ⟨ret_bool hA.out, hk'.out⟩
end Go.Proofs.Ytmdgbcbnciaikaa
