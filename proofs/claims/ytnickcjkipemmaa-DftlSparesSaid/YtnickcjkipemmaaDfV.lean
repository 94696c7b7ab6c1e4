/- what may be read, key by key, in a map of rows; brought -/
import Derived.Test.YtnickcjkipemmaaDfU
import Derived.Test.YtnickcjkipemmaaRanges
namespace Go.Proofs.Ytnickcjkipemmaa
open Go.RowKit

/-- block mb is a map of keys 0 up to 'keys', each with a row of its own: M key -/
structure MayB (w : World) (mb : Nat) (keys : Int) (M : Int → List Int) (f : List (Int × Value)) (B C : Int → Nat) (Q : Nat → Prop) : Prop where
  map : MapB w mb f
  own : Q mb
  within : ∀ k, k ∈ mkeys f → 0 ≤ k ∧ k < keys
  row : ∀ k, 0 ≤ k → k < keys → mget k f = some (.slice (some ⟨B k, 0, none⟩) (M k).length (C k)) ∧ RowAt w 30 1 (some ⟨B k, 0, none⟩) (M k).length (C k) (ncells (M k)) ∧ Q (B k)
  inj : ∀ k j, 0 ≤ k → k < keys → 0 ≤ j → j < keys → k ≠ j → B k ≠ B j
  lt : ∀ k, Q k → k < w.heap.size
  nodup : (mkeys f).Nodup
def MayAt (w : World) (mb : Nat) (keys : Int) (M : Int → List Int) (Q : Nat → Prop) : Prop := ∃ f B C, MayB w mb keys M f B C Q
variable {w w' : World} {mb : Nat} {keys : Int} {M M' : Int → List Int} {f : List (Int × Value)} {B C : Int → Nat} {Q T : Nat → Prop}
theorem MayB.keeps (h : MayB w mb keys M f B C Q) (hk : Keeps T w w') (hn : ∀ k, Q k → ¬ T k) : MayB w' mb keys M f B C Q := by
  refine ⟨h.map.keeps hk (hn _ h.own), h.own, h.within, fun k h0 h1 => ?_, h.inj, fun k hk2 => Nat.lt_of_lt_of_le (h.lt k hk2) hk.size, h.nodup⟩
  obtain ⟨a, b, c⟩ := h.row k h0 h1
  exact ⟨a, b.keeps hk (fun g hg => by simp [blk] at hg; rw [← hg]; exact hn _ c), c⟩
theorem MayAt.keeps (h : MayAt w mb keys M Q) (hk : Keeps T w w') (hn : ∀ k, Q k → ¬ T k) : MayAt w' mb keys M Q := by
  obtain ⟨f, B, C, h⟩ := h
  exact ⟨f, B, C, h.keeps hk hn⟩
theorem MayB.cell (h : MayB w mb keys M f B C Q) {k : Int} (h0 : 0 ≤ k) (h1 : k < keys) {j : Nat} (hj : j < (M k).length) : w.cell? ⟨B k, j, none⟩ = some (.int .u64 ((M k).getD j 0)) := by
  obtain ⟨_, hr, _⟩ := h.row k h0 h1
  have := (RowAt.src hr).2.2 ⟨B k, 0, none⟩ rfl j (.int .u64 ((M k).getD j 0)) (by
    unfold ncells
    rw [List.getElem?_map, List.getElem?_eq_getElem hj, List.getD_eq_getElem?_getD, List.getElem?_eq_getElem hj]; rfl)
  rw [Addr.add_lit, Nat.zero_add] at this
  exact this
theorem MayB.mem (h : MayB w mb keys M f B C Q) {k : Int} {v : Value} (hk : (k, v) ∈ f) : (0 ≤ k ∧ k < keys) ∧ mget k f = some v := by
  have hm : k ∈ mkeys f := List.mem_map_of_mem (f := (·.1)) hk
  refine ⟨h.within k hm, ?_⟩
  have hnd := h.nodup
  clear h
  induction f with
  | nil => cases hk
  | cons p r ih =>
    obtain ⟨j, u⟩ := p
    have hnd' : j ∉ mkeys r ∧ (mkeys r).Nodup := List.nodup_cons.1 hnd
    rw [mget]
    rcases List.mem_cons.1 hk with e | hk
    · cases e; rw [if_pos rfl]
    · have hkr : k ∈ mkeys r := List.mem_map_of_mem (f := (·.1)) hk
      rw [if_neg (fun e => hnd'.1 (by rw [← e]; exact hkr))]
      exact ih hk hkr hnd'.2
def leftN (w : World) (r b : Nat) : Nat := match w.heap[r]?, w.heap[b]? with
  | some (.mapIter _ _ s _), some (.map es _) => (leftOf es s).size
  | _, _ => 0
theorem RangeAt.leftN {r b n : Nat} (h : RangeAt w r b f n) : leftN w r b = n := by
  obtain ⟨es, c, s, h1, h2, h3, h4, h5, h6⟩ := h
  unfold Ytnickcjkipemmaa.leftN
  rw [h5, h1]
  exact h6
/-- has the pager what may be? -/
def Brought (P : Pg) (keys : Int) (M : Int → List Int) : Prop := ∀ k, 0 ≤ k → k < keys → P.at k ∈ M k
theorem any_drop {l : List Int} {x : Int} {j : Nat} (hj : j < l.length) : (l.take (j + 1)).contains x = ((l.take j).contains x || (l.getD j 0 == x)) := by
  rw [List.take_add_one, List.getElem?_eq_getElem hj, List.getD_eq_getElem?_getD, List.getElem?_eq_getElem hj]
  simp only [Option.toList_some, Option.getD_some, List.contains_eq_any_beq, List.any_append, List.any_cons, List.any_nil, Bool.or_false]
  congr 1
  exact Bool.beq_comm ..
set_option maxHeartbeats 8000000 in
set_option maxRecDepth 100000 in
theorem brought_any {pb : Nat} {P : Pg} {OP : Nat → Prop} (hP : PgAt w pb P OP) (hM : MayB w mb keys M f B C Q) (hlen : ∀ k, (M k).length ≤ 100000) (hkeys : keys ≤ 100000) (hB : Brought P keys M) :
    Calls Try.prog 36 #[.pointer (some ⟨pb, 0, none⟩), .map (some mb)] w fun e w' => e = .returned (.bool true) ∧ Keeps Nil w w' := by
  have hP' := Lib.hid hP
  have hM' := Lib.hid hM
  have hlen' := Lib.hid hlen
  have hB' := Lib.hid hB
  clear hP hM hlen hB
  go_enter Try.func36, Try.ntmps36
  go_wp2_with (at_range; refine wpList_rangeI _ rfl _ 66 rfl 3 67 Try.underlying66 mb f rfl (by exact hM'.out.map) ?_; intro w1 n1 hrg hk1 hs1; have hrg' := Lib.hid hrg; have hk1' := Lib.hid hk1; have hs1' := Lib.hid hs1; clear hrg hk1 hs1; go_frame)
  obtain ⟨rb, hrb⟩ : ∃ rb : Nat, w.heap.size = rb := ⟨_, rfl⟩
  have hrb' := Lib.hid hrb
  rw [hrb] at hrg' ⊢
  clear hrb
  go_loopw [5] (fun _ wr => ∃ n, RangeAt wr rb mb f n ∧ Keeps (· = rb) w1 wr) (fun _ wr => leftN wr rb mb)
  case atStart => exact ⟨n1, hrg'.out, Keeps.refl _ _⟩
  case round =>
    obtain ⟨n2, hrg, hK⟩ := hrel
    have hrgx := Lib.hid hrg
    have hKx := Lib.hid hK
    clear hrg hK
    go_wp2_with (at_next; refine wpList_nextI _ rfl _ rfl rb mb n2 f rfl (by exact hrgx.out) ?_ ?_)
    case _ =>
      go_wp2_with fail
      go_ret
      exact ⟨rfl, hk1'.out.trans' hKx.out (fun j hj => .inr (by rw [hj, ← hrb'.out]; exact Nat.le_refl _))⟩
    case _ =>
      intro k v w3 m hkv hmn hrg3 hk3 hs3 hen
      obtain ⟨⟨k0, k1⟩, hmg⟩ := hM'.out.mem hkv
      obtain ⟨hr1, hr2, hr3⟩ := hM'.out.row k k0 k1
      rw [hmg] at hr1
      cases hr1
      have hMn := Lib.hid (hM'.out.keeps ((hk1'.out.trans' hKx.out (fun j hj => .inr (by rw [hj, ← hrb'.out]; exact Nat.le_refl _))).trans' (S := Nil) hk3 (fun j hj => .inr (by rw [hj, ← hrb'.out]; exact Nat.le_refl _))) (fun _ _ h => h))
      have hPn := Lib.hid (hP'.out.keeps ((hk1'.out.trans' hKx.out (fun j hj => .inr (by rw [hj, ← hrb'.out]; exact Nat.le_refl _))).trans' (S := Nil) hk3 (fun j hj => .inr (by rw [hj, ← hrb'.out]; exact Nat.le_refl _))) (fun _ _ h => h))
      have hmn' := Lib.hid hmn
      have hrg3' := Lib.hid hrg3
      have hK3 := Lib.hid (hKx.out.trans hk3)
      have hbr := hB'.out k k0 k1
      have hl := hlen'.out k
      obtain ⟨row, hrow⟩ : ∃ r, M k = r := ⟨_, rfl⟩
      obtain ⟨pv, hpv⟩ : ∃ v, P.at k = v := ⟨_, rfl⟩
      have hcell := Lib.hid (fun j (hj : j < row.length) => (show w3.cell? ⟨B k, j, none⟩ = some (.int .u64 (row.getD j 0)) from by rw [← hrow]; exact hMn.out.cell k0 k1 (by rw [hrow]; exact hj)))
      have hcont := Lib.hid (show row.contains pv = true by rw [← hrow, ← hpv]; simpa using hbr)
      have hAtX := Lib.hid (fun W (hW : Keeps Nil w3 W) => (show Calls Try.prog 35 #[.pointer (some ⟨pb, 0, none⟩), .int .i64 k] W fun e w' => e = .returned (.int .u64 pv) ∧ Keeps Nil W w' from by rw [← hpv]; exact at_any (hPn.out.keeps hW (fun _ _ h => h)) k0 (by omega)))
      rw [hrow] at hen hl ⊢
      have hrbl := hrg3'.out.lt
      clear hmn hrg3 hk3 hs3 hkv hmg hr2 hr3 hbr hrow hpv hPn hMn
      go_wp2_with fail
      clear hen
      go_loopw [7, 8] (fun th j wr => ∃ q : Nat, q ≤ row.length ∧ j = .int .i64 q ∧ th = .bool ((row.take q).contains pv) ∧ Keeps Nil w3 wr) (fun _ j _ => row.length - (intOf j).toNat)
      case atStart => exact ⟨0, Nat.zero_le _, rfl, by simp, Keeps.refl _ _⟩
      case round =>
        obtain ⟨q, hq, rfl, rfl, hKq⟩ := hrel
        by_cases hlt : q < row.length
        · have had := any_drop (x := pv) hlt
          have c0 := hKq.cell (hcell.out q hlt) (fun h => h)
          obtain ⟨rv, hrv⟩ : ∃ v, row.getD q 0 = v := ⟨_, rfl⟩
          rw [hrv] at had c0
          have hA := Lib.hid (hAtX.out wr.drew hKq.drew)
          have hKq' := Lib.hid hKq
          cases hb : (row.take q).contains pv with
          | true =>
            rw [hb, Bool.true_or] at had
            have had' := Lib.hid had
            clear hKq had hrv hb
            go_wp2_with fail
            go_quiet (fail)
            go_wp2_with fail
            go_roundw
            case rel => exact ⟨q + 1, by omega, by go_num, by rw [had'.out], hKq'.out.drewN _⟩
            case measure => simp [intOf]; omega
          | false =>
            rw [hb, Bool.false_or] at had
            have had' := Lib.hid had
            clear hKq had hrv hb
            go_wp2_with fail
            go_region_held3 (fun W => W.cell? ⟨B k, q, none⟩ = some (.int .u64 rv)) (first | exact c0 | exact hk9'.out.cell c0 (fun h => h)) ((go_at_call 35; refine (hA.out).mono ?_; rintro e w9 ⟨rfl, hk9⟩; have hk9' := Lib.hid hk9; clear hk9))
            go_wp2_with fail
            go_roundw
            case rel => exact ⟨q + 1, by omega, by go_num, by rw [had'.out], hKq'.out.drew.trans hk9'.out⟩
            case measure => simp [intOf]; omega
        · have e : row.take q = row := List.take_of_length_le (by omega)
          rw [e, hcont.out]
          have hKq' := Lib.hid hKq
          clear hKq e
          go_wp2_with fail
          go_roundw
          case rel => exact ⟨m, hrg3'.out.keeps hKq'.out (fun h => h) (fun h => h), hK3.out.trans (hKq'.out.mono (fun _ h => h.elim))⟩
          case measure => rw [(hrg3'.out.keeps hKq'.out (fun h => h) (fun h => h)).leftN, hrgx.out.leftN]; exact hmn'.out
end Go.Proofs.Ytnickcjkipemmaa
