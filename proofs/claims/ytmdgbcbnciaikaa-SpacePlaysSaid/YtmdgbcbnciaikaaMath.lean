/- namespaces over keys: the plain law -/
namespace Go.Proofs.Ytmdgbcbnciaikaa

structure Spc where
  id : Int
  base : Int
  size : Int
deriving DecidableEq
def sp0 : Spc := ⟨0, 0, 0⟩
/-- those that are -/
def spAll (T : List Spc) : List Spc := T.filter (fun s => s != sp0)
/-- the lowest place with room, behind 'at', among spaces by rising bases -/
def scan (size keys : Int) : List Spc → Int → Int
  | [], pl => if size ≤ keys - pl then pl else -1
  | s :: r, pl => if size ≤ s.base - pl then pl else scan size keys r (s.base + s.size)
/-- by rising bases, none over the next -/
def Rising (S : List Spc) : Prop := S.Pairwise (fun a b => a.base + a.size ≤ b.base)
structure SpOk (keys : Int) (s : Spc) : Prop where
  size : 1 ≤ s.size
  base : 0 ≤ s.base
  top : s.base + s.size ≤ keys
def Apart (a b : Spc) : Prop := a.base + a.size ≤ b.base ∨ b.base + b.size ≤ a.base
theorem Apart.symm {a b : Spc} (h : Apart a b) : Apart b a := h.elim .inr .inl

theorem scan_ok {size keys : Int} (hs : 1 ≤ size) : ∀ (S : List Spc) (pl : Int), 0 ≤ pl → Rising S → (∀ s ∈ S, SpOk keys s) → (∀ s ∈ S, pl ≤ s.base) →
    scan size keys S pl = -1 ∨ (pl ≤ scan size keys S pl ∧ scan size keys S pl + size ≤ keys ∧ ∀ s ∈ S, scan size keys S pl + size ≤ s.base ∨ s.base + s.size ≤ scan size keys S pl)
  | [], pl, h0, _, _, _ => by
    unfold scan
    split
    · exact .inr ⟨Int.le_refl _, by omega, fun s h => by cases h⟩
    · exact .inl rfl
  | s :: r, pl, h0, hr, hok, hpl => by
    unfold Rising at hr
    rw [List.pairwise_cons] at hr
    have hso := hok s (by simp)
    have hsb := hpl s (by simp)
    unfold scan
    split
    · rename_i hfit
      refine .inr ⟨Int.le_refl _, by have := hso.top; have := hso.size; omega, fun t ht => ?_⟩
      rcases List.mem_cons.1 ht with rfl | ht
      · left; omega
      · left
        have := hr.1 t ht
        have := hso.size
        omega
    · have h1 := hso.size
      rcases scan_ok hs r (s.base + s.size) (by have := hso.base; omega) hr.2 (fun t ht => hok t (List.mem_cons_of_mem _ ht)) (fun t ht => hr.1 t ht) with h | ⟨h2, h3, h4⟩
      · exact .inl h
      · refine .inr ⟨by omega, h3, fun t ht => ?_⟩
        rcases List.mem_cons.1 ht with rfl | ht
        · right; exact h2
        · exact h4 t ht
/-- a table of 16 places -/
structure TabOk (keys : Int) (T : List Spc) : Prop where
  len : T.length = 16
  one : ∀ (i : Nat) (s : Spc), T[i]? = some s → s = sp0 ∨ (s.id = (i : Int) + 1 ∧ SpOk keys s)
  two : ∀ (i j : Nat) (s t : Spc), i ≠ j → T[i]? = some s → T[j]? = some t → s ≠ sp0 → t ≠ sp0 → Apart s t
theorem TabOk.zero (keys : Int) : TabOk keys (List.replicate 16 sp0) :=
  ⟨by simp, fun i s h => .inl (by have := List.mem_of_getElem? h; exact (List.mem_replicate.1 this).2), fun i j s t _ h1 _ hs _ => absurd (List.mem_replicate.1 (List.mem_of_getElem? h1)).2 hs⟩
theorem mem_all {T : List Spc} {s : Spc} : s ∈ spAll T ↔ s ∈ T ∧ s ≠ sp0 := by
  unfold spAll
  rw [List.mem_filter]
  simp
theorem TabOk.all {keys : Int} {T : List Spc} (h : TabOk keys T) {s : Spc} (hs : s ∈ spAll T) : SpOk keys s := by
  obtain ⟨h1, h2⟩ := mem_all.1 hs
  obtain ⟨i, hi⟩ := List.mem_iff_getElem?.1 h1
  rcases h.one i s hi with h3 | ⟨_, h3⟩
  · exact absurd h3 h2
  · exact h3
/-- a space that is apart from all is put in at a place where none is -/
theorem TabOk.put {keys : Int} {T : List Spc} (h : TabOk keys T) {i : Nat} (hi : T[i]? = some sp0) {s : Spc} (hid : s.id = (i : Int) + 1) (hok : SpOk keys s) (hap : ∀ t ∈ spAll T, Apart s t) : TabOk keys (T.set i s) := by
  have hil := (List.getElem?_eq_some_iff.1 hi).1
  have get : ∀ (j : Nat) (t : Spc), (T.set i s)[j]? = some t → (j = i ∧ t = s) ∨ (j ≠ i ∧ T[j]? = some t) := by
    intro j t ht
    rw [List.getElem?_set] at ht
    by_cases hj : i = j
    · subst hj
      rw [if_pos rfl, if_pos hil] at ht
      exact .inl ⟨rfl, (Option.some.inj ht).symm⟩
    · rw [if_neg hj] at ht
      exact .inr ⟨fun e => hj e.symm, ht⟩
  refine ⟨by rw [List.length_set]; exact h.len, fun j t ht => ?_, fun j k t u hjk ht hu hts hus => ?_⟩
  · rcases get j t ht with ⟨rfl, rfl⟩ | ⟨_, h2⟩
    · exact .inr ⟨hid, hok⟩
    · exact h.one j t h2
  · rcases get j t ht with ⟨rfl, rfl⟩ | ⟨h1, h2⟩
    · rcases get k u hu with ⟨rfl, rfl⟩ | ⟨h3, h4⟩
      · exact absurd rfl hjk
      · exact hap u (mem_all.2 ⟨List.mem_of_getElem? h4, hus⟩)
    · rcases get k u hu with ⟨rfl, rfl⟩ | ⟨h3, h4⟩
      · exact (hap t (mem_all.2 ⟨List.mem_of_getElem? h2, hts⟩)).symm
      · exact h.two j k t u hjk h2 h4 hts hus
theorem TabOk.del {keys : Int} {T : List Spc} (h : TabOk keys T) (i : Nat) : TabOk keys (T.set i sp0) := by
  have get : ∀ (j : Nat) (t : Spc), (T.set i sp0)[j]? = some t → t = sp0 ∨ T[j]? = some t := by
    intro j t ht
    rw [List.getElem?_set] at ht
    by_cases hj : i = j
    · subst hj
      rw [if_pos rfl] at ht
      split at ht
      · exact .inl (Option.some.inj ht).symm
      · cases ht
    · rw [if_neg hj] at ht
      exact .inr ht
  refine ⟨by rw [List.length_set]; exact h.len, fun j t ht => ?_, fun j k t u hjk ht hu hts hus => ?_⟩
  · rcases get j t ht with h1 | h1
    · exact .inl h1
    · exact h.one j t h1
  · rcases get j t ht with h1 | h1
    · exact absurd h1 hts
    · rcases get k u hu with h2 | h2
      · exact absurd h2 hus
      · exact h.two j k t u hjk h1 h2 hts hus
/-- a row of the spaces by rising bases is Rising -/
theorem rising_of {keys : Int} {T S : List Spc} (h : TabOk keys T) (hp : S.Perm (spAll T)) (hs : S.Pairwise (fun a b => a.base < b.base)) : Rising S := by
  unfold Rising
  refine hs.imp_of_mem (fun {a b} ha hb hlt => ?_)
  have ha' := hp.mem_iff.1 ha
  have hb' := hp.mem_iff.1 hb
  obtain ⟨a1, a2⟩ := mem_all.1 ha'
  obtain ⟨b1, b2⟩ := mem_all.1 hb'
  obtain ⟨i, hi⟩ := List.mem_iff_getElem?.1 a1
  obtain ⟨j, hj⟩ := List.mem_iff_getElem?.1 b1
  have hij : i ≠ j := by
    rintro rfl
    rw [hi] at hj
    cases hj
    omega
  rcases h.two i j a b hij hi hj a2 b2 with h1 | h1
  · exact h1
  · have := (h.all hb').size
    omega
/-- bases of the spaces differ -/
theorem bases_nodup {keys : Int} {T : List Spc} (h : TabOk keys T) : ((spAll T).map (·.base)).Nodup := by
  have hT : T.Pairwise (fun a b => a ≠ sp0 → b ≠ sp0 → a.base ≠ b.base) := by
    rw [List.pairwise_iff_getElem]
    intro i j hi hj hij ha hb e
    have h1 := h.two i j T[i] T[j] (by omega) (List.getElem?_eq_getElem hi) (List.getElem?_eq_getElem hj) ha hb
    have s1 := (h.all (mem_all.2 ⟨List.getElem_mem hi, ha⟩)).size
    have s2 := (h.all (mem_all.2 ⟨List.getElem_mem hj, hb⟩)).size
    rcases h1 with h2 | h2 <;> omega
  unfold List.Nodup
  rw [List.pairwise_map]
  have hf : (spAll T).Pairwise (fun a b => a ≠ sp0 → b ≠ sp0 → a.base ≠ b.base) := hT.sublist List.filter_sublist
  refine hf.imp_of_mem (fun {a b} ha hb h => h (mem_all.1 ha).2 (mem_all.1 hb).2)
/-! ### the table's calls on lists -/
/-- the first place where none is -/
def idx0 : List Spc → Nat → Int
  | [], _ => -1
  | s :: r, i => if s = sp0 then (i : Int) else idx0 r (i + 1)
theorem idx0_spec : ∀ (T : List Spc) (i : Nat), idx0 T i = -1 ∨ ∃ j : Nat, idx0 T i = ((i + j : Nat) : Int) ∧ T[j]? = some sp0
  | [], _ => .inl rfl
  | s :: r, i => by
    unfold idx0
    split
    · rename_i h
      exact .inr ⟨0, by simp, by simp [h]⟩
    · rcases idx0_spec r (i + 1) with h | ⟨j, h1, h2⟩
      · exact .inl h
      · exact .inr ⟨j + 1, by rw [h1]; congr 1; omega, by simpa using h2⟩
theorem idx0_drop {T : List Spc} {q : Nat} (h : q < T.length) : idx0 (T.drop q) q = if T[q] = sp0 then (q : Int) else idx0 (T.drop (q + 1)) (q + 1) := by
  rw [List.drop_eq_getElem_cons h, idx0]
/-- all keys that belong to one -/
def spSum : List Spc → Int
  | [] => 0
  | s :: r => s.size + spSum r
theorem spSum_app : ∀ (A B : List Spc), spSum (A ++ B) = spSum A + spSum B
  | [], B => by simp [spSum]
  | s :: r, B => by simp [spSum, spSum_app r B]; omega
theorem spSum_take {T : List Spc} {q : Nat} (h : q < T.length) : spSum (T.take (q + 1)) = spSum (T.take q) + T[q].size := by
  rw [List.take_succ_eq_append_getElem h, spSum_app]
  simp [spSum]
theorem spSum_all : ∀ (T : List Spc), spSum (spAll T) = spSum T
  | [] => rfl
  | s :: r => by
    have ih := spSum_all r
    unfold spAll at ih ⊢
    rw [List.filter_cons]
    split
    · simp [spSum, ih]
    · rename_i h
      have hs : s = sp0 := by simpa using h
      subst hs
      show spSum (List.filter (fun s => s != sp0) r) = sp0.size + spSum r
      rw [ih]
      show spSum r = 0 + spSum r
      omega
/-- spaces by rising bases are unique -/
theorem sorted_one : ∀ {l m : List Spc}, l.Perm m → l.Pairwise (fun a b => a.base < b.base) → m.Pairwise (fun a b => a.base < b.base) → l = m
  | [], m, hp, _, _ => (List.nil_perm.1 hp).symm
  | a :: l, [], hp, _, _ => absurd hp.length_eq (by simp)
  | a :: l, b :: m, hp, h1, h2 => by
    rw [List.pairwise_cons] at h1 h2
    have hab : a = b := by
      have ha : a ∈ b :: m := hp.mem_iff.1 (by simp)
      have hb : b ∈ a :: l := hp.mem_iff.2 (by simp)
      rcases List.mem_cons.1 ha with h | h
      · exact h
      · rcases List.mem_cons.1 hb with h' | h'
        · exact h'.symm
        · have := h1.1 b h'
          have := h2.1 a h
          omega
    subst hab
    rw [sorted_one ((List.perm_cons a).1 hp) h1.2 h2.2]
/-- what Create does: the new table, what it answers -/
def mkAt (keys : Int) (S : List Spc) (size : Int) : Int := scan size keys S 0
theorem create_ok {keys size : Int} {T S : List Spc} {i : Nat} (h : TabOk keys T) (hp : S.Perm (spAll T)) (hs : S.Pairwise (fun a b => a.base < b.base)) (hsz : 1 ≤ size) (hi : T[i]? = some sp0) (hat : 0 ≤ mkAt keys S size) :
    TabOk keys (T.set i ⟨(i : Int) + 1, mkAt keys S size, size⟩) := by
  have hr := rising_of h hp hs
  have hok : ∀ s ∈ S, SpOk keys s := fun s hh => h.all (hp.mem_iff.1 hh)
  rcases scan_ok hsz S 0 (Int.le_refl _) hr hok (fun s hh => (hok s hh).base) with h1 | ⟨h1, h2, h3⟩
  · unfold mkAt at hat; omega
  · refine h.put hi rfl ⟨hsz, h1, h2⟩ (fun t ht => ?_)
    have := h3 t (hp.mem_iff.2 ht)
    exact this
/-! ### the keys of spaces -/
def keysOf : List Spc → List Int
  | [] => []
  | s :: r => (List.range s.size.toNat).map (fun j : Nat => s.base + (j : Int)) ++ keysOf r
def keysUp (s : Spc) (k : Nat) : List Int := (List.range k).map (fun j : Nat => s.base + (j : Int))
theorem keysUp_mem {s : Spc} {k : Nat} {x : Int} : x ∈ keysUp s k ↔ s.base ≤ x ∧ x < s.base + k := by
  unfold keysUp
  rw [List.mem_map]
  constructor
  · rintro ⟨j, hj, rfl⟩
    have := List.mem_range.1 hj
    omega
  · rintro ⟨h1, h2⟩
    exact ⟨(x - s.base).toNat, List.mem_range.2 (by omega), by omega⟩
theorem keysUp_succ (s : Spc) (k : Nat) : keysUp s (k + 1) = keysUp s k ++ [s.base + (k : Int)] := by
  unfold keysUp
  rw [List.range_succ, List.map_append]; rfl
theorem keysOf_mem {x : Int} : ∀ {L : List Spc}, x ∈ keysOf L ↔ ∃ s ∈ L, s.base ≤ x ∧ x < s.base + s.size.toNat
  | [] => by simp [keysOf]
  | s :: r => by
    unfold keysOf
    rw [List.mem_append, keysOf_mem (L := r)]
    have := keysUp_mem (s := s) (k := s.size.toNat) (x := x)
    unfold keysUp at this
    rw [this]
    simp
theorem keysOf_snoc (L : List Spc) (s : Spc) : keysOf (L ++ [s]) = keysOf L ++ keysUp s s.size.toNat := by
  induction L with
  | nil => simp [keysOf, keysUp]
  | cons a r ih => simp only [List.cons_append, keysOf, ih, List.append_assoc]
theorem keysOf_len : ∀ {L : List Spc}, (∀ s ∈ L, 0 ≤ s.size) → ((keysOf L).length : Int) = spSum L
  | [], _ => rfl
  | s :: r, h => by
    have ih := keysOf_len (L := r) (fun t ht => h t (List.mem_cons_of_mem _ ht))
    have hs := h s (by simp)
    unfold keysOf spSum
    rw [List.length_append, List.length_map, List.length_range]
    omega
/-- spaces of a table: places of those that are, apart -/
theorem all_apart {keys : Int} {T : List Spc} (h : TabOk keys T) : (spAll T).Pairwise Apart := by
  have hT : T.Pairwise (fun a b => a ≠ sp0 → b ≠ sp0 → Apart a b) := by
    rw [List.pairwise_iff_getElem]
    intro i j hi hj hij ha hb
    exact h.two i j T[i] T[j] (by omega) (List.getElem?_eq_getElem hi) (List.getElem?_eq_getElem hj) ha hb
  have hf : (spAll T).Pairwise (fun a b => a ≠ sp0 → b ≠ sp0 → Apart a b) := hT.sublist List.filter_sublist
  exact hf.imp_of_mem (fun {a b} ha hb h => h (mem_all.1 ha).2 (mem_all.1 hb).2)
/-- a key of the next space is new -/
theorem key_new {keys : Int} {T : List Spc} (h : TabOk keys T) {i k : Nat} {s : Spc} (hs : (spAll T)[i]? = some s) (hk : (k : Int) < s.size) : s.base + (k : Int) ∉ keysOf ((spAll T).take i) ++ keysUp s k := by
  intro hm
  have hil := (List.getElem?_eq_some_iff.1 hs).1
  rcases List.mem_append.1 hm with h1 | h1
  · obtain ⟨t, ht, h2, h3⟩ := keysOf_mem.1 h1
    obtain ⟨j, hj, rfl⟩ := List.mem_iff_getElem.1 ht
    have hjl : j < i := by simp at hj; omega
    have hap := List.pairwise_iff_getElem.1 (all_apart h) j i (by omega) hil hjl
    rw [List.getElem_take] at h2 h3
    have e : (spAll T)[i] = s := (List.getElem?_eq_some_iff.1 hs).2
    rw [e] at hap
    rcases hap with h4 | h4 <;> omega
  · have := keysUp_mem.1 h1
    omega
end Go.Proofs.Ytmdgbcbnciaikaa
