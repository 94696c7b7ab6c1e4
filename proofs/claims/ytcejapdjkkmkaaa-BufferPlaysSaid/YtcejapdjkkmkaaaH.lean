/- the buffer as a list of items: the contracts of the calls -/
import Derived.Test.YtcejapdjkkmkaaaG
namespace Go.Proofs.Ytcejapdjkkmkaaa
open Go.RowKit

/-- What is known of a key. -/
structure It where
  key : Int
  st : Int
  data : List Int
deriving DecidableEq
def Rec.it (r : Rec) : It := ⟨r.key, r.st, r.data⟩

def ikeys (l : List It) : List Int := l.map (·.key)
def iget (k : Int) : List It → Option It
  | [] => none
  | x :: l => if k = x.key then some x else iget k l
def iset (r : It) : List It → List It
  | [] => [r]
  | x :: l => if r.key = x.key then r :: l else x :: iset r l
def idel (k : Int) : List It → List It
  | [] => []
  | x :: l => if k = x.key then l else x :: idel k l
def ifull (most : Int) (k : Int) (l : List It) : Bool := (iget k l).isNone && decide (most ≤ (l.length : Int))
def iput (most : Int) (r : It) (l : List It) : List It := if ifull most r.key l = true then l else iset r l
def icode (most : Int) (k : Int) (l : List It) : Int := if ifull most k l = true then 90 else 0
def ihas (k : Int) (l : List It) : Bool := (iget k l).isSome
def ist (k : Int) (l : List It) : Int := ((iget k l).map (·.st)).getD 0
def idata (k : Int) (l : List It) : List Int := ((iget k l).map (·.data)).getD []

theorem iget_map (k : Int) : ∀ L : List Rec, iget k (L.map Rec.it) = (bget k L).map Rec.it
  | [] => rfl
  | x :: l => by
    have ih := iget_map k l
    by_cases h : k = x.key <;> simp [iget, bget, Rec.it, h] <;> simpa [h, Rec.it] using ih
theorem iset_map (r : Rec) : ∀ L : List Rec, iset r.it (L.map Rec.it) = (bset r L).map Rec.it
  | [] => rfl
  | x :: l => by
    have ih := iset_map r l
    by_cases h : r.key = x.key <;> simp [iset, bset, Rec.it, h] <;> simpa [h, Rec.it] using ih
theorem idel_map (k : Int) : ∀ L : List Rec, idel k (L.map Rec.it) = (bdel k L).map Rec.it
  | [] => rfl
  | x :: l => by
    have ih := idel_map k l
    by_cases h : k = x.key <;> simp [idel, bdel, Rec.it, h] <;> simpa [h, Rec.it] using ih
theorem ikeys_map (L : List Rec) : ikeys (L.map Rec.it) = bkeys L := by simp [ikeys, bkeys, Rec.it]
theorem ifull_map (most k : Int) (L : List Rec) : ifull most k (L.map Rec.it) = bfull most k L := by simp [ifull, bfull, iget_map]
theorem iput_map (most : Int) (r : Rec) (L : List Rec) : iput most r.it (L.map Rec.it) = (bput most r L).map Rec.it := by
  unfold iput bput
  rw [show r.it.key = r.key from rfl, ifull_map]
  split
  · rfl
  · exact iset_map r L
theorem icode_map (most k : Int) (L : List Rec) : icode most k (L.map Rec.it) = bcode most k L := by unfold icode bcode; rw [ifull_map]
theorem iget_none {k : Int} {l : List It} : iget k l = none ↔ k ∉ ikeys l := by
  induction l with
  | nil => simp [iget, ikeys]
  | cons x l ih => by_cases h : k = x.key <;> simp [iget, ikeys, h] <;> simpa [ikeys] using ih
theorem iset_new {r : It} {l : List It} (h : r.key ∉ ikeys l) : iset r l = l ++ [r] := by
  induction l with
  | nil => rfl
  | cons x l ih =>
    have h' : r.key ≠ x.key ∧ r.key ∉ ikeys l := by simpa [ikeys] using h
    simp only [iset, if_neg h'.1, List.cons_append]
    rw [ih h'.2]
theorem ikeys_set_in {r : It} {l : List It} (h : r.key ∈ ikeys l) : ikeys (iset r l) = ikeys l := by
  induction l with
  | nil => simp [ikeys] at h
  | cons x l ih =>
    by_cases e : r.key = x.key
    · simp [iset, ikeys, e]
    · have h' : r.key ∈ ikeys l := by simpa [ikeys, e] using h
      simp only [iset, if_neg e, ikeys, List.map_cons]
      congr 1
      exact ih h'
theorem iget_set (k : Int) (r : It) : ∀ l : List It, iget k (iset r l) = if k = r.key then some r else iget k l
  | [] => by simp [iset, iget]
  | x :: l => by
    by_cases e : r.key = x.key
    · by_cases hk : k = r.key
      · simp [iset, iget, e, hk]
      · have hk' : k ≠ x.key := fun h => hk (h.trans e.symm)
        simp [iset, iget, e, hk']
    · simp only [iset, if_neg e, iget]
      rw [iget_set k r l]
      by_cases hk : k = x.key
      · have : k ≠ r.key := fun h => e (h.symm.trans hk)
        simp [hk, Ne.symm e]
      · simp [hk]

def BufX (w : World) (bb : Nat) (most : Int) (l : List It) (O : Nat → Prop) : Prop := ∃ mb ka kcap L, BufS w bb mb ka kcap most L ∧ L.map Rec.it = l ∧ O = down bb mb ka L

variable {w w' : World} {bb : Nat} {most : Int} {l : List It} {O : Nat → Prop}
theorem BufX.keeps {T : Nat → Prop} (h : BufX w bb most l O) (hk : Keeps T w w') (hn : ∀ k, O k → ¬ T k) : BufX w' bb most l O := by
  obtain ⟨mb, ka, kcap, L, hS, hl, rfl⟩ := h
  exact ⟨mb, ka, kcap, L, hS.keeps hk hn, hl, rfl⟩
theorem BufX.nil (h : BufX w bb most l O) (hk : Keeps Nil w w') : BufX w' bb most l O := h.keeps hk (fun _ _ h => h)
theorem BufX.lt (h : BufX w bb most l O) {k : Nat} (hk : O k) : k < w.heap.size := by
  obtain ⟨mb, ka, kcap, L, hS, hl, rfl⟩ := h
  exact hS.lt hk
theorem BufX.nodup (h : BufX w bb most l O) : (ikeys l).Nodup := by
  obtain ⟨mb, ka, kcap, L, hS, rfl, rfl⟩ := h
  rw [ikeys_map]; exact hS.nodup

def Grow (O O' : Nat → Prop) (w : World) : Prop := ∀ k, O' k → O k ∨ w.heap.size ≤ k
theorem Grow.refl (O : Nat → Prop) (w : World) : Grow O O w := fun _ h => .inl h
/-- a call on the buffer -/
def BOut (w : World) (bb : Nat) (most : Int) (O : Nat → Prop) (v : Value) (l' : List It) (e : Ending) (w' : World) : Prop := e = .returned v ∧ ∃ O', BufX w' bb most l' O' ∧ Keeps O w w' ∧ Grow O O' w

theorem wown_down {bb mb : Nat} {ka : Option Addr} {L : List Rec} {k : Nat} (h : wown bb mb ka k) : down bb mb ka L k := by
  rcases h with h | h | h
  · exact .inl h
  · exact .inr (.inl h)
  · exact .inr (.inr (.inl h))
theorem BOut.of {mb : Nat} {ka : Option Addr} {L L' : List Rec} {v : Value} {e : Ending} (h : PutOut w bb mb ka most L' v e w') (hL : ∀ x ∈ L', x ∈ L ∨ ∀ g, blk x.a = some g → w.heap.size ≤ g) : BOut w bb most (down bb mb ka L) v (L'.map Rec.it) e w' := by
  obtain ⟨rfl, ka', kcap', h1, h2, h3⟩ := h
  refine ⟨rfl, _, ⟨mb, ka', kcap', L', h1, rfl, rfl⟩, h2.mono (fun j hj => wown_down hj), ?_⟩
  rintro k (rfl | rfl | hk | ⟨x, hx, hg⟩)
  · exact .inl (.inl rfl)
  · exact .inl (.inr (.inl rfl))
  · rcases h3 with e | ⟨g, e, hge⟩
    · exact .inl (.inr (.inr (.inl (e ▸ hk))))
    · rw [e] at hk; cases hk; exact .inr hge
  · rcases hL x hx with hx' | hx'
    · exact .inl (.inr (.inr (.inr ⟨x, hx', hg⟩)))
    · exact .inr (hx' k hg)
theorem mem_bput {most : Int} {r x : Rec} {L : List Rec} (h : x ∈ bput most r L) : x = r ∨ x ∈ L := by
  unfold bput at h
  split at h
  · exact .inr h
  · exact mem_bset h

theorem putX (h : BufX w bb most l O) (k : Int) {a : Option Addr} {cap : Nat} {d : List Int} (hd : DataAt w a d) (hdl : d.length ≤ 140737488351232) (hm : (l.length : Int) ≤ most) (hl : l.length ≤ 1000000) :
    Calls Try.prog 9 #[.pointer (some ⟨bb, 0, none⟩), .int .i64 k, .slice a d.length cap] w (BOut w bb most O (.int .i64 (icode most k l)) (iput most ⟨k, 1, d⟩ l)) := by
  obtain ⟨mb, ka, kcap, L, hS, rfl, rfl⟩ := h
  rw [List.length_map] at hm hl
  refine (put_any hS k hd hdl hm hl).mono ?_
  rintro e w' ⟨g, hP, hge⟩
  rw [icode_map, show (⟨k, 1, d⟩ : It) = (⟨k, 1, d, some ⟨g, 0, none⟩, d.length⟩ : Rec).it from rfl, iput_map]
  refine BOut.of hP (fun x hx => ?_)
  rcases mem_bput hx with rfl | hx
  · exact .inr (fun q hq => by cases hq; exact hge)
  · exact .inl hx
theorem trimX (h : BufX w bb most l O) (k : Int) (hm : (l.length : Int) ≤ most) (hl : l.length ≤ 1000000) :
    Calls Try.prog 13 #[.pointer (some ⟨bb, 0, none⟩), .int .i64 k] w (BOut w bb most O (.int .i64 (icode most k l)) (iput most ⟨k, 2, []⟩ l)) := by
  obtain ⟨mb, ka, kcap, L, hS, rfl, rfl⟩ := h
  rw [List.length_map] at hm hl
  refine (trim_any hS k hm hl).mono ?_
  intro e w' hP
  rw [icode_map, show (⟨k, 2, []⟩ : It) = (⟨k, 2, [], none, 0⟩ : Rec).it from rfl, iput_map]
  refine BOut.of hP (fun x hx => ?_)
  rcases mem_bput hx with rfl | hx
  · exact .inr (fun q hq => by cases hq)
  · exact .inl hx
theorem dropX (h : BufX w bb most l O) (k : Int) (hl : l.length ≤ 1000000) :
    Calls Try.prog 18 #[.pointer (some ⟨bb, 0, none⟩), .int .i64 k] w (BOut w bb most O (.bool (ihas k l)) (idel k l)) := by
  obtain ⟨mb, ka, kcap, L, hS, rfl, rfl⟩ := h
  rw [List.length_map] at hl
  unfold ihas
  rw [idel_map, iget_map]
  cases hx : bget k L with
  | none =>
    have hd : bdel k L = L := by
      have h1 := bget_none.1 hx
      clear hx hS hl
      induction L with
      | nil => rfl
      | cons x r ih =>
        have h' : k ≠ x.key ∧ k ∉ bkeys r := by simpa [bkeys] using h1
        rw [bdel, if_neg h'.1, ih h'.2]
    refine (drop_out hS (bget_none.1 hx) hl).mono ?_
    rintro e w' ⟨rfl, rfl⟩
    exact ⟨rfl, _, ⟨mb, ka, kcap, L, hS, by rw [hd], rfl⟩, Keeps.refl _ _, Grow.refl _ _⟩
  | some x =>
    refine (drop_in hS (k := k) (Classical.byContradiction fun hc => by rw [bget_none.2 hc] at hx; cases hx) hl).mono ?_
    intro e w' hP
    exact BOut.of hP (fun y hy => .inl (mem_bdel hy))
theorem getX (h : BufX w bb most l O) (k : Int) : Calls Try.prog 15 #[.pointer (some ⟨bb, 0, none⟩), .int .i64 k] w (GetOut w (ist k l) (idata k l)) := by
  obtain ⟨mb, ka, kcap, L, hS, rfl, rfl⟩ := h
  unfold ist idata
  rw [iget_map]
  cases hx : bget k L with
  | none => exact get_out hS hx
  | some x => exact get_in hS hx
theorem lenX (h : BufX w bb most l O) : Calls Try.prog 11 #[.pointer (some ⟨bb, 0, none⟩)] w fun e w' => e = .returned (.int .i64 l.length) ∧ w' = w := by
  obtain ⟨mb, ka, kcap, L, hS, rfl, rfl⟩ := h
  rw [List.length_map]
  exact len_any hS
theorem keysX (h : BufX w bb most l O) (hl : l.length ≤ 1000000) : Calls Try.prog 19 #[.pointer (some ⟨bb, 0, none⟩)] w fun e w' => ∃ a' cap', e = .returned (.slice a' l.length cap') ∧ KeyRow w' a' cap' (ikeys l) ∧ Keeps Nil w w' ∧ (∀ g, blk a' = some g → w.heap.size ≤ g) := by
  obtain ⟨mb, ka, kcap, L, hS, rfl, rfl⟩ := h
  rw [List.length_map] at hl ⊢
  rw [ikeys_map]
  exact keys_any hS hl
theorem takeX {x : It} (h : BufX w bb most (x :: l) O) (hl : l.length < 1000000) :
    Calls Try.prog 10 #[.pointer (some ⟨bb, 0, none⟩)] w fun e w' => ∃ a cap, BOut w bb most O (.tuple #[.int .i64 x.key, .int .i64 x.st, .slice a x.data.length cap, .bool true]) l e w' ∧ DataAt w' a x.data := by
  obtain ⟨mb, ka, kcap, L, hS, hL, rfl⟩ := h
  cases L with
  | nil => cases hL
  | cons y r =>
    rw [List.map_cons, List.cons.injEq] at hL
    obtain ⟨rfl, rfl⟩ := hL
    rw [List.length_map] at hl
    refine (take_in hS hl).mono ?_
    rintro e w' ⟨hP, hD⟩
    exact ⟨y.a, y.cap, BOut.of hP (fun z hz => .inl (List.mem_cons_of_mem _ hz)), hD.at⟩
theorem takeN (h : BufX w bb most [] O) : Calls Try.prog 10 #[.pointer (some ⟨bb, 0, none⟩)] w fun e w' => e = .returned (.tuple #[.int .i64 0, .int .i64 0, .slice none 0 0, .bool false]) ∧ w' = w := by
  obtain ⟨mb, ka, kcap, L, hS, hL, rfl⟩ := h
  cases L with
  | nil => exact take_none hS
  | cons y r => cases hL
theorem newX (most : Int) (w : World) (hm : 1 ≤ most) : Calls Try.prog 8 #[.int .i64 most] w fun e w' => ∃ bb O, e = .returned (.tuple #[.pointer (some ⟨bb, 0, none⟩), .int .i64 0]) ∧ BufX w' bb most [] O ∧ Keeps Nil w w' ∧ (∀ k, O k → w.heap.size ≤ k) := by
  refine (new_any most w hm).mono ?_
  rintro e w' ⟨bb, mb, rfl, hS, hk, h1, h2⟩
  refine ⟨bb, _, rfl, ⟨mb, none, 0, [], hS, rfl, rfl⟩, hk, ?_⟩
  rintro k (rfl | rfl | hk | ⟨x, hx, _⟩)
  · exact h1
  · exact h2
  · cases hk
  · cases hx
end Go.Proofs.Ytcejapdjkkmkaaa
