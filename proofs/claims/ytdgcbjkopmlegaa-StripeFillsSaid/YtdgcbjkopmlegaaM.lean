/- stripe: leaves that may be, of raw ones: what is known of them -/
import Derived.Test.YtdgcbjkopmlegaaL
import Derived.Laws.BitsAllLaws
namespace Go.Proofs.Ytdgcbjkopmlegaa
open Go.RowKit

def SlOk (s : Sl) : Prop := (0 ≤ s.key ∧ s.key ≤ 4294967295) ∧ (0 ≤ s.st ∧ s.st ≤ 3) ∧ (0 ≤ s.seq ∧ s.seq ≤ 281474976710655)
def SecOk (S : Nat) (d : List Int) : Prop := d.length = S ∧ ∀ v ∈ d, 0 ≤ v ∧ v ≤ 255
/-- a leaf that may be, none of whose sectors is left out -/
structure Right (S n : Nat) (x : Lf) : Prop where
  l1 : x.sl.length = n
  l2 : x.se.length = n
  sl : ∀ s ∈ x.sl, SlOk s
  se : ∀ d ∈ x.se, SecOk S d

/-- a leaf that is read, whatever is done outside Z -/
def LfZ (w : World) (sa ba : Option Addr) (x : Lf) (Z : Nat → Prop) : Prop := ∀ (T : Nat → Prop) (w' : World), Keeps T w w' → (∀ k, Z k → ¬ T k) → LfAt w' sa ba x
theorem LfZ.at {w : World} {sa ba : Option Addr} {x : Lf} {Z : Nat → Prop} (h : LfZ w sa ba x Z) : LfAt w sa ba x := h Nil w (Keeps.refl _ _) (fun _ _ h => h)
theorem LfZ.keeps {w w' : World} {sa ba : Option Addr} {x : Lf} {Z T : Nat → Prop} (h : LfZ w sa ba x Z) (hk : Keeps T w w') (hn : ∀ k, Z k → ¬ T k) : LfZ w' sa ba x Z := fun T' w'' hk' hn' =>
  h (fun k => T k ∨ T' k) w'' ((hk.mono (fun _ h => .inl h)).trans (hk'.mono (fun _ h => .inr h))) (fun k hz ht => ht.elim (hn k hz) (hn' k hz))
theorem LfZ.mono {w : World} {sa ba : Option Addr} {x : Lf} {Z Y : Nat → Prop} (h : LfZ w sa ba x Z) (hs : ∀ k, Z k → Y k) : LfZ w sa ba x Y := fun T w' hk hn => h T w' hk (fun k hz => hn k (hs k hz))

/-- a leaf and where it lies -/
structure LH where
  x : Lf
  sa : Option Addr
  sc : Nat
  ba : Option Addr
  bc : Nat
def lhC (h : LH) : List Value := [.slice h.sa h.x.sl.length h.sc, .slice h.ba h.x.se.length h.bc]
theorem lhC_len (h : LH) : (lhC h).length = 2 := rfl
theorem lhC_one (L : List LH) : ∀ u ∈ recs lhC L, u.oneCell' = true := by
  intro u hu
  obtain ⟨x, _, hx⟩ := List.mem_flatMap.1 hu
  simp [lhC] at hx
  rcases hx with rfl | rfl <;> rfl
theorem slC_one (L : List Sl) : ∀ u ∈ recs slC L, u.oneCell' = true := by
  intro u hu
  obtain ⟨x, _, hx⟩ := List.mem_flatMap.1 hu
  simp [slC] at hx
  rcases hx with rfl | rfl | rfl <;> rfl
/-- leaves in a row of the call's own: the row at a, what is read in Z -/
structure OutL (w : World) (a : Option Addr) (cap : Nat) (L : List LH) (Z : Nat → Prop) : Prop where
  row : RecRow lhC 2 w 35 a cap L
  lf : ∀ h ∈ L, LfZ w h.sa h.ba h.x Z
  no : ∀ k, Z k → k < w.heap.size ∧ blk a ≠ some k
theorem OutL.keeps {w w' : World} {a : Option Addr} {cap : Nat} {L : List LH} {Z T : Nat → Prop} (h : OutL w a cap L Z) (hk : Keeps T w w') (hn : ∀ k, Z k ∨ blk a = some k → ¬ T k) : OutL w' a cap L Z :=
  ⟨RowAt.keeps h.row hk (fun g hg => hn g (.inr hg)), fun x hx => (h.lf x hx).keeps hk (fun k hz => hn k (.inl hz)), fun k hz => ⟨Nat.lt_of_lt_of_le (h.no k hz).1 hk.size, (h.no k hz).2⟩⟩
theorem OutL.leaves {w : World} {a : Option Addr} {cap : Nat} {L : List LH} {Z : Nat → Prop} (h : OutL w a cap L Z) : LeavesAt w a (L.map (·.x)) := by
  intro i hi
  have hi' : i < L.length := by simpa using hi
  obtain ⟨g, ha, _, _, hc⟩ := h.row.cell lhC_len (List.getElem?_eq_getElem hi')
  have c0 := hc 0 _ (by decide) rfl
  have c1 := hc 1 _ (by decide) rfl
  rw [Nat.add_zero] at c0
  refine ⟨g, 0, L[i].sa, L[i].sc, L[i].ba, L[i].bc, ha, ?_, ?_, ?_⟩
  · rw [Nat.zero_add]; simpa using c0
  · rw [Nat.zero_add]; simpa using c1
  · simpa using (h.lf _ (List.getElem_mem hi')).at

/-- a leaf that is being built: its head at xb, its rows, its sectors -/
structure BldL (w : World) (S xb : Nat) (sa : Option Addr) (sc : Nat) (ba : Option Addr) (bc : Nat) (ds : List Nat) (x : Lf) : Prop where
  head : w.heap[xb]? = some (.cells #[.slice sa x.sl.length sc, .slice ba x.sl.length bc] 35)
  sl : RecRow slC 3 w 44 sa sc x.sl
  se : RowAt w 45 1 ba x.sl.length bc (ds.map (dsl S))
  da : ∀ (i d : Nat), ds[i]? = some d → ∃ r : List Int, x.se[i]? = some r ∧ r.length = S ∧ w.heap[d]? = some (.cells (dcells r).toArray 5)
  n1 : ds.length = x.sl.length
  n2 : x.se.length = x.sl.length
def bown (sa ba : Option Addr) (ds : List Nat) (k : Nat) : Prop := blk sa = some k ∨ blk ba = some k ∨ k ∈ ds
theorem BldL.keeps {T : Nat → Prop} {w w' : World} {S xb : Nat} {sa ba : Option Addr} {sc bc : Nat} {ds : List Nat} {x : Lf} (h : BldL w S xb sa sc ba bc ds x) (hk : Keeps T w w') (hx : ¬ T xb) (hn : ∀ k, bown sa ba ds k → ¬ T k) : BldL w' S xb sa sc ba bc ds x :=
  ⟨hk.heap h.head hx, RowAt.keeps h.sl hk (fun g hg => hn g (.inl hg)), RowAt.keeps h.se hk (fun g hg => hn g (.inr (.inl hg))), fun i d hd => let ⟨r, h1, h2, h3⟩ := h.da i d hd; ⟨r, h1, h2, hk.heap h3 (hn d (.inr (.inr (List.mem_of_getElem? hd))))⟩, h.n1, h.n2⟩
theorem BldL.lt {w : World} {S xb : Nat} {sa ba : Option Addr} {sc bc : Nat} {ds : List Nat} {x : Lf} (h : BldL w S xb sa sc ba bc ds x) {k : Nat} (hk : bown sa ba ds k) : k < w.heap.size := by
  rcases hk with hk | hk | hk
  · exact RowAt.lt h.sl hk
  · exact RowAt.lt h.se hk
  · obtain ⟨i, hi⟩ := List.mem_iff_getElem?.1 hk
    obtain ⟨r, _, _, h3⟩ := h.da i k hi
    exact lt_of_heap h3
theorem BldL.at {w : World} {S xb : Nat} {sa ba : Option Addr} {sc bc : Nat} {ds : List Nat} {x : Lf} (h : BldL w S xb sa sc ba bc ds x) : LfAt w sa ba x := by
  refine ⟨fun i hi => ?_, fun i hi => ?_⟩
  · obtain ⟨g, ha, _, _, hc⟩ := h.sl.cell slC_len (List.getElem?_eq_getElem hi)
    have c0 := hc 0 _ (by decide) rfl
    have c1 := hc 1 _ (by decide) rfl
    have c2 := hc 2 _ (by decide) rfl
    rw [Nat.add_zero] at c0
    exact ⟨g, 0, ha, by rw [Nat.zero_add]; exact c0, by rw [Nat.zero_add]; exact c1, by rw [Nat.zero_add]; exact c2⟩
  · have hid : i < ds.length := by rw [h.n1, ← h.n2]; exact hi
    obtain ⟨r, g1, g2, g3⟩ := h.da i ds[i] (List.getElem?_eq_getElem hid)
    rw [List.getElem?_eq_getElem hi] at g1
    have e : x.se[i] = r := Option.some.inj g1
    rcases h.se.form with ⟨_, h2, _⟩ | ⟨g, cur, ha, _⟩
    · have := h.n2; omega
    · have hc := h.se.src.2.2 ⟨g, 0, none⟩ ha i (dsl S ds[i]) (by simp [hid])
      rw [Addr.add_lit] at hc
      refine ⟨g, 0, some ⟨ds[i], 0, none⟩, S, ha, ?_, ?_⟩
      · rw [hc, e, g2]; rfl
      · rw [e]
        intro j hj
        refine ⟨ds[i], 0, rfl, ?_⟩
        rw [Nat.zero_add, cell_of_heap g3]
        simp [dcells, gi_eq hj, hj]
theorem BldL.lfz {w : World} {S xb : Nat} {sa ba : Option Addr} {sc bc : Nat} {ds : List Nat} {x : Lf} (h : BldL w S xb sa sc ba bc ds x) : LfZ w sa ba x (fun k => k = xb ∨ bown sa ba ds k) := fun _ _ hk hn =>
  (h.keeps hk (hn xb (.inl rfl)) (fun k hb => hn k (.inr hb))).at
end Go.Proofs.Ytdgcbjkopmlegaa
