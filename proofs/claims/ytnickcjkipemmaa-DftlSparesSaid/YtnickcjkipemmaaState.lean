/- what a cache is in memory -/
import Derived.Test.YtnickcjkipemmaaOut
namespace Go.Proofs.Ytnickcjkipemmaa
open Go.RowKit

structure Ent where
  key : Int
  val : Int
  dirty : Bool
deriving DecidableEq
abbrev Node := Nat × Ent
def lk (s : Node) : Lk := (s.1, 0)
def nptr (b : Nat) : Value := .pointer (some ⟨b, 0, none⟩)
/-- the cells of an entry -/
structure EntAt (w : World) (b o : Nat) (e : Ent) : Prop where
  key : w.cell? ⟨b, o, none⟩ = some (.int .i64 e.key)
  val : w.cell? ⟨b, o + 1, none⟩ = some (.int .u64 e.val)
  dirty : w.cell? ⟨b, o + 2, none⟩ = some (.bool e.dirty)
def own (cb mb : Nat) (S : List Node) (k : Nat) : Prop := k = cb ∨ k = mb ∨ k ∈ S.map (·.1)

/-- the map's entries are the nodes -/
def MapOf (f : List (Int × Value)) (S : List Node) : Prop := (mkeys f).Nodup ∧ f.length = S.length ∧ ∀ k v, mget k f = some v ↔ ∃ s ∈ S, s.2.key = k ∧ v = nptr s.1
theorem MapOf.perm {f : List (Int × Value)} {S S' : List Node} (h : MapOf f S) (hp : S.Perm S') : MapOf f S' := by
  obtain ⟨h1, h2, h3⟩ := h
  refine ⟨h1, by rw [h2, hp.length_eq], fun k v => ?_⟩
  rw [h3]
  exact ⟨fun ⟨s, hs, x⟩ => ⟨s, hp.mem_iff.1 hs, x⟩, fun ⟨s, hs, x⟩ => ⟨s, hp.mem_iff.2 hs, x⟩⟩
theorem MapOf.nil : MapOf [] [] := ⟨List.nodup_nil, rfl, fun k v => by simp [mget]⟩
theorem MapOf.del {f : List (Int × Value)} {s : Node} {N : List Node} (h : MapOf f (s :: N)) (hk : ∀ x ∈ N, x.2.key ≠ s.2.key) : MapOf (mdel s.2.key f) N := by
  obtain ⟨h1, h2, h3⟩ := h
  have hin : s.2.key ∈ mkeys f := by
    by_cases hin : s.2.key ∈ mkeys f
    · exact hin
    · have e := (h3 s.2.key (nptr s.1)).2 ⟨s, by simp, rfl, rfl⟩
      rw [mget_none.2 hin] at e; cases e
  refine ⟨by rw [mkeys_del]; exact h1.erase _, ?_, fun k v => ?_⟩
  · have := mkeys_length (mdel s.2.key f)
    rw [mkeys_del, List.length_erase_of_mem hin, mkeys_length, h2] at this
    simpa using this.symm
  · by_cases e : k = s.2.key
    · have hn : k ∉ mkeys (mdel s.2.key f) := by rw [mkeys_del, e]; exact h1.not_mem_erase
      rw [mget_none.2 hn]
      constructor
      · intro h; cases h
      · rintro ⟨x, hx, hxk, _⟩
        exact absurd (hxk.trans e) (hk x hx)
    · rw [mget_del_other e, h3]
      constructor
      · rintro ⟨x, hx, hxk, hv⟩
        rcases List.mem_cons.1 hx with rfl | hx
        · exact absurd hxk.symm e
        · exact ⟨x, hx, hxk, hv⟩
      · rintro ⟨x, hx, hxk, hv⟩
        exact ⟨x, List.mem_cons_of_mem _ hx, hxk, hv⟩
theorem MapOf.set {f : List (Int × Value)} {s : Node} {N : List Node} (h : MapOf f N) (hk : ∀ x ∈ N, x.2.key ≠ s.2.key) : MapOf (mset s.2.key (nptr s.1) f) (s :: N) := by
  obtain ⟨h1, h2, h3⟩ := h
  have hn : s.2.key ∉ mkeys f := by
    rw [← mget_none]
    cases hg : mget s.2.key f with
    | none => rfl
    | some v =>
      obtain ⟨x, hx, hxk, _⟩ := (h3 _ _).1 hg
      exact absurd hxk (hk x hx)
  refine ⟨?_, by rw [mset_new hn]; simp [h2], fun k v => ?_⟩
  · rw [mset_new hn]
    unfold mkeys at h1 hn ⊢
    rw [List.map_append, List.nodup_append]
    refine ⟨h1, by simp, fun a ha b hb e => ?_⟩
    simp only [List.map_cons, List.map_nil, List.mem_cons, List.not_mem_nil, or_false] at hb
    rw [e, hb] at ha
    exact hn ha
  · rw [mget_set]
    by_cases e : k = s.2.key
    · rw [if_pos e]
      constructor
      · intro h; cases h; exact ⟨s, by simp, e.symm, rfl⟩
      · rintro ⟨x, hx, hxk, rfl⟩
        rcases List.mem_cons.1 hx with rfl | hx
        · rfl
        · exact absurd (hxk.trans e) (hk x hx)
    · rw [if_neg e, h3]
      constructor
      · rintro ⟨x, hx, y⟩; exact ⟨x, List.mem_cons_of_mem _ hx, y⟩
      · rintro ⟨x, hx, hxk, hv⟩
        rcases List.mem_cons.1 hx with rfl | hx
        · exact absurd hxk.symm e
        · exact ⟨x, hx, hxk, hv⟩

/-- all but the ring's order -/
structure LruB (w : World) (cb mb : Nat) (most : Int) (S : List Node) : Prop where
  most : w.cell? ⟨cb, 0, none⟩ = some (.int .i64 most)
  at_ : w.cell? ⟨cb, 1, none⟩ = some (.map (some mb))
  map : ∃ f, MapAt w mb f ∧ MapOf f S
  nodup : (cb :: mb :: S.map (·.1)).Nodup
  keys : (S.map (·.2.key)).Nodup
  ent : ∀ s ∈ S, EntAt w s.1 0 s.2
  blk : ∀ k : Nat, (k = cb ∨ k ∈ S.map (·.1)) → ∃ (cs : Array Value) (t : TypeId), w.heap[k]? = some (Obj.cells cs t (0, 0))
theorem LruB.fro {w : World} {cb mb : Nat} {most : Int} {S : List Node} (h : LruB w cb mb most S) : ∀ k, (k = cb ∨ k ∈ S.map (·.1)) → ∀ o, w.frozen? ⟨k, o, none⟩ = false := fun k hk o => by
  obtain ⟨cs, t, hh⟩ := h.blk k hk
  exact frozen_of_heap hh o
structure Lru (w : World) (cb mb : Nat) (most : Int) (S : List Node) : Prop extends LruB w cb mb most S where
  seq : Seq w ((cb, 2) :: S.map lk ++ [(cb, 2)])

theorem EntAt.keeps {T : Nat → Prop} {w w' : World} {b o : Nat} {e : Ent} (h : EntAt w b o e) (hk : Keeps T w w') (hn : ¬ T b) : EntAt w' b o e := ⟨hk.cell h.key hn, hk.cell h.val hn, hk.cell h.dirty hn⟩
theorem EntAt.cong {w w' : World} {b o : Nat} {e : Ent} (h : EntAt w b o e) (h0 : w'.cell? ⟨b, o, none⟩ = w.cell? ⟨b, o, none⟩) (h1 : w'.cell? ⟨b, o + 1, none⟩ = w.cell? ⟨b, o + 1, none⟩) (h2 : w'.cell? ⟨b, o + 2, none⟩ = w.cell? ⟨b, o + 2, none⟩) : EntAt w' b o e :=
  ⟨h0.trans h.key, h1.trans h.val, h2.trans h.dirty⟩
theorem LruB.lt {w : World} {cb mb : Nat} {most : Int} {S : List Node} (h : LruB w cb mb most S) {k : Nat} (hk : own cb mb S k) : k < w.heap.size := by
  rcases hk with rfl | rfl | hk
  · exact lt_of_cell h.most
  · obtain ⟨f, hm, _⟩ := h.map; exact hm.lt
  · obtain ⟨s, hs, rfl⟩ := List.mem_map.1 hk
    exact lt_of_cell (h.ent s hs).key
theorem LruB.perm {w : World} {cb mb : Nat} {most : Int} {S S' : List Node} (h : LruB w cb mb most S) (hp : S.Perm S') : LruB w cb mb most S' := by
  obtain ⟨f, h1, h2⟩ := h.map
  have hpm : (S.map (·.1)).Perm (S'.map (·.1)) := hp.map _
  refine ⟨h.most, h.at_, ⟨f, h1, h2.perm hp⟩, ?_, ?_, fun s hs => h.ent s (hp.mem_iff.2 hs), fun k hk => h.blk k (hk.imp id (fun x => hpm.mem_iff.2 x))⟩
  · exact ((hpm.cons mb).cons cb).nodup_iff.1 h.nodup
  · exact (hp.map _).nodup_iff.1 h.keys
theorem own_perm {cb mb : Nat} {S S' : List Node} (hp : S.Perm S') {k : Nat} : own cb mb S k ↔ own cb mb S' k := by
  unfold own
  rw [(hp.map (·.1)).mem_iff]
theorem LruB.cb_ne {w : World} {cb mb : Nat} {most : Int} {S : List Node} (h : LruB w cb mb most S) {s : Node} (hs : s ∈ S) : cb ≠ s.1 ∧ mb ≠ s.1 ∧ cb ≠ mb := by
  have h1 := List.nodup_cons.1 h.nodup
  have h2 := List.nodup_cons.1 h1.2
  have hm : s.1 ∈ S.map (·.1) := List.mem_map_of_mem hs
  refine ⟨?_, ?_, ?_⟩ <;> intro e
  · exact h1.1 (by rw [e]; simp [hm])
  · exact h2.1 (by rw [e]; exact hm)
  · exact h1.1 (by rw [e]; simp)
theorem LruB.ne_map {w : World} {cb mb : Nat} {most : Int} {S : List Node} (h : LruB w cb mb most S) : cb ≠ mb := by
  have h1 := List.nodup_cons.1 h.nodup
  intro e
  exact h1.1 (by rw [e]; simp)
/-- link cells alone are written -/
def Links (cb : Nat) (S : List Node) (b o : Nat) : Prop := (b = cb ∧ 5 ≤ o) ∨ (b ∈ S.map (·.1) ∧ 3 ≤ o)
theorem LruB.sets {w w' : World} {cb mb : Nat} {most : Int} {S : List Node} (h : LruB w cb mb most S) {T : Nat → Nat → Prop} (hs : Sets T w w') (ht : ∀ b o, T b o → Links cb S b o) : LruB w' cb mb most S := by
  have hnb : ∀ o, o < 5 → ¬ T cb o := fun o ho hT => by
    rcases ht _ _ hT with ⟨_, h2⟩ | ⟨h2, _⟩
    · omega
    · exact (List.nodup_cons.1 h.nodup).1 (by simp at h2 ⊢; exact .inr h2)
  have hmb : ∀ o, ¬ T mb o := fun o hT => by
    rcases ht _ _ hT with ⟨h2, _⟩ | ⟨h2, _⟩
    · exact h.ne_map h2.symm
    · exact (List.nodup_cons.1 (List.nodup_cons.1 h.nodup).2).1 h2
  have hnn : ∀ s ∈ S, ∀ o, o < 3 → ¬ T s.1 o := fun s hs o ho hT => by
    rcases ht _ _ hT with ⟨h2, _⟩ | ⟨_, h2⟩
    · exact (h.cb_ne hs).1 h2.symm
    · omega
  obtain ⟨f, ⟨es, c, h1, h2⟩, h3⟩ := h.map
  refine ⟨(hs.cell _ _ (hnb 0 (by omega))).trans h.most, (hs.cell _ _ (hnb 1 (by omega))).trans h.at_, ⟨f, ⟨es, c, (hs.block _ hmb).trans h1, h2⟩, h3⟩, h.nodup, h.keys, fun s hm => ?_, fun k hk => by obtain ⟨cs, t, hh⟩ := h.blk k hk; obtain ⟨cs', h'⟩ := hs.kind k cs t hh; exact ⟨cs', t, h'⟩⟩
  exact (h.ent s hm).cong (hs.cell _ _ (hnn s hm 0 (by omega))) (hs.cell _ _ (hnn s hm 1 (by omega))) (hs.cell _ _ (hnn s hm 2 (by omega)))
theorem Links.keeps {w w' : World} {cb mb : Nat} {S : List Node} {T : Nat → Nat → Prop} (hs : Sets T w w') (ht : ∀ b o, T b o → Links cb S b o) : Keeps (own cb mb S) w w' :=
  hs.keeps.mono fun k ⟨o, hT⟩ => by
    rcases ht _ _ hT with ⟨h, _⟩ | ⟨h, _⟩
    · exact .inl h
    · exact .inr (.inr h)
theorem Seq.keeps {T : Nat → Prop} {w w' : World} (hk : Keeps T w w') : ∀ {l : List Lk}, Seq w l → (∀ p ∈ l, ¬ T p.1) → Seq w' l
  | [], _, _ => trivial
  | [_], _, _ => trivial
  | a :: b :: l, h, hn => ⟨⟨hk.cell h.1.1 (hn a (by simp)), hk.cell h.1.2 (hn b (by simp))⟩, Seq.keeps hk h.2 (fun p hp => hn p (List.mem_cons_of_mem _ hp))⟩
theorem LruB.keeps {T : Nat → Prop} {w w' : World} {cb mb : Nat} {most : Int} {S : List Node} (h : LruB w cb mb most S) (hk : Keeps T w w') (hn : ∀ k, own cb mb S k → ¬ T k) : LruB w' cb mb most S := by
  obtain ⟨f, h1, h2⟩ := h.map
  have hcb : ¬ T cb := hn cb (.inl rfl)
  refine ⟨hk.cell h.most hcb, hk.cell h.at_ hcb, ⟨f, h1.keeps hk (hn mb (.inr (.inl rfl))), h2⟩, h.nodup, h.keys, fun s hs => (h.ent s hs).keeps hk (hn _ (.inr (.inr (List.mem_map_of_mem hs)))), fun k hk' => ?_⟩
  have ho : own cb mb S k := hk'.imp id (fun x => .inr x)
  obtain ⟨cs, t, hh⟩ := h.blk k hk'
  exact ⟨cs, t, hk.heap hh (hn k ho)⟩
theorem Lru.keeps {T : Nat → Prop} {w w' : World} {cb mb : Nat} {most : Int} {S : List Node} (h : Lru w cb mb most S) (hk : Keeps T w w') (hn : ∀ k, own cb mb S k → ¬ T k) : Lru w' cb mb most S := by
  refine ⟨h.toLruB.keeps hk hn, Seq.keeps hk h.seq (fun p hp => ?_)⟩
  simp only [List.mem_append, List.mem_cons, List.not_mem_nil, or_false, List.mem_map] at hp
  rcases hp with (rfl | ⟨s, hs, rfl⟩) | rfl
  · exact hn _ (.inl rfl)
  · exact hn _ (.inr (.inr (List.mem_map_of_mem hs)))
  · exact hn _ (.inl rfl)
theorem Lru.drewN {w : World} {cb mb : Nat} {most : Int} {S : List Node} (h : Lru w cb mb most S) (n : Nat) : Lru (w.drewN n) cb mb most S := h.keeps ((Keeps.refl Nil w).drewN n) (fun _ _ h => h)
theorem Lru.apart {w : World} {cb mb : Nat} {most : Int} {S : List Node} (h : Lru w cb mb most S) : Apart ((cb, 2) :: S.map lk) := by
  unfold Apart
  rw [List.map_cons, List.map_map]
  have h1 := List.nodup_cons.1 h.nodup
  have e : (S.map ((fun x : Lk => x.1) ∘ lk)) = S.map (·.1) := by simp [Function.comp_def, lk]
  rw [e]
  exact List.nodup_cons.2 ⟨fun hm => h1.1 (List.mem_cons_of_mem _ hm), (List.nodup_cons.1 h1.2).2⟩
theorem mem_links {cb : Nat} {S : List Node} {u : Lk} (hu : u ∈ (cb, 2) :: S.map lk) : (u = (cb, 2)) ∨ (u.2 = 0 ∧ u.1 ∈ S.map (·.1)) := by
  simp only [List.mem_cons, List.mem_map] at hu
  rcases hu with h | ⟨s, hs, rfl⟩
  · exact .inl h
  · exact .inr ⟨rfl, List.mem_map_of_mem hs⟩
theorem Lru.fro' {w : World} {cb mb : Nat} {most : Int} {S : List Node} (h : Lru w cb mb most S) {u : Lk} (hu : u ∈ (cb, 2) :: S.map lk) (o : Nat) : w.frozen? ⟨u.1, o, none⟩ = false := by
  rcases mem_links hu with rfl | ⟨_, hm⟩
  · exact h.fro _ (.inl rfl) o
  · exact h.fro _ (.inr hm) o
theorem tie_links {cb : Nat} {S : List Node} {u v : Lk} (hu : u ∈ (cb, 2) :: S.map lk) (hv : v ∈ (cb, 2) :: S.map lk) : ∀ b o, Tie u v b o → Links cb S b o := by
  rintro b o (⟨rfl, rfl⟩ | ⟨rfl, rfl⟩)
  · rcases mem_links hu with rfl | ⟨h0, hm⟩
    · exact .inl ⟨rfl, by show 5 ≤ 2 + 4; omega⟩
    · exact .inr ⟨hm, by omega⟩
  · rcases mem_links hv with rfl | ⟨h0, hm⟩
    · exact .inl ⟨rfl, by show 5 ≤ 2 + 3; omega⟩
    · exact .inr ⟨hm, by omega⟩

/-- the entry of s is taken out of the map, too -/
theorem LruB.del {w w' : World} {cb mb : Nat} {most : Int} {s : Node} {N : List Node} {f : List (Int × Value)} (h : LruB w cb mb most (s :: N)) (hf : MapOf f (s :: N)) (hm : MapAt w' mb (mdel s.2.key f)) (hk : Keeps (· = mb) w w') : LruB w' cb mb most N := by
  have hkey := List.nodup_cons.1 h.keys
  have hne : ∀ x ∈ N, x.2.key ≠ s.2.key := fun x hx e => hkey.1 (by show s.2.key ∈ _; rw [← e]; exact List.mem_map_of_mem (f := fun x : Node => x.2.key) hx)
  have hcm : ¬ cb = mb := h.ne_map
  have h1 := List.nodup_cons.1 h.nodup
  have h2 := List.nodup_cons.1 h1.2
  have hnm : ∀ x ∈ s :: N, ¬ x.1 = mb := fun x hx e => (h.cb_ne hx).2.1 e.symm
  refine ⟨hk.cell h.most hcm, hk.cell h.at_ hcm, ⟨_, hm, hf.del hne⟩, ?_, hkey.2, fun x hx => (h.ent x (List.mem_cons_of_mem _ hx)).keeps hk (hnm x (List.mem_cons_of_mem _ hx)), fun k hk' => ?_⟩
  · refine List.nodup_cons.2 ⟨fun hm => h1.1 ?_, List.nodup_cons.2 ⟨fun hm => h2.1 ?_, (List.nodup_cons.1 h2.2).2⟩⟩
    · rcases List.mem_cons.1 hm with hm | hm
      · rw [hm]; simp
      · exact List.mem_cons_of_mem _ (List.mem_cons_of_mem _ hm)
    · exact List.mem_cons_of_mem _ hm
  · have hk2 : k = cb ∨ k ∈ (s :: N).map (·.1) := hk'.imp id (fun x => List.mem_cons_of_mem _ x)
    obtain ⟨cs, t, hh⟩ := h.blk k hk2
    refine ⟨cs, t, hk.heap hh ?_⟩
    rcases hk2 with rfl | hk2
    · exact hcm
    · obtain ⟨x, hx, rfl⟩ := List.mem_map.1 hk2
      exact hnm x hx

/-- a new entry, its node made already, is put into the map -/
theorem LruB.add {w w' : World} {cb mb nb : Nat} {most : Int} {S : List Node} {e : Ent} {f : List (Int × Value)} (h : LruB w cb mb most S) (hof : MapOf f S) (hm : MapAt w' mb (mset e.key (nptr nb) f)) (hk : Keeps (· = mb) w w') (hne : ∀ s ∈ S, s.2.key ≠ e.key) (hent : EntAt w nb 0 e) (hnb : ¬ own cb mb S nb) (hfro : ∃ (cs : Array Value) (t : TypeId), w.heap[nb]? = some (Obj.cells cs t (0, 0))) : LruB w' cb mb most ((nb, e) :: S) := by
  have hcm : ¬ cb = mb := h.ne_map
  have h1 := List.nodup_cons.1 h.nodup
  have h2 := List.nodup_cons.1 h1.2
  have n1 : nb ≠ cb := fun e => hnb (.inl e)
  have n2 : nb ≠ mb := fun e => hnb (.inr (.inl e))
  have n3 : nb ∉ S.map (·.1) := fun e => hnb (.inr (.inr e))
  have hnm : ∀ x ∈ S, ¬ x.1 = mb := fun x hx e => (h.cb_ne hx).2.1 e.symm
  refine ⟨hk.cell h.most hcm, hk.cell h.at_ hcm, ⟨_, hm, hof.set (s := (nb, e)) hne⟩, ?_, ?_, fun x hx => ?_, fun k hk' => ?_⟩
  · refine List.nodup_cons.2 ⟨fun hm => ?_, List.nodup_cons.2 ⟨fun hm => ?_, List.nodup_cons.2 ⟨n3, h2.2⟩⟩⟩
    · simp only [List.map_cons, List.mem_cons] at hm
      rcases hm with hm | hm | hm
      · exact hcm hm
      · exact n1 hm.symm
      · exact h1.1 (List.mem_cons_of_mem _ hm)
    · simp only [List.map_cons, List.mem_cons] at hm
      rcases hm with hm | hm
      · exact n2 hm.symm
      · exact h2.1 hm
  · rw [List.map_cons]
    refine List.nodup_cons.2 ⟨fun hm => ?_, h.keys⟩
    obtain ⟨x, hx, hx2⟩ := List.mem_map.1 hm
    exact hne x hx hx2
  · rcases List.mem_cons.1 hx with rfl | hx
    · exact hent.keeps hk n2
    · exact (h.ent x hx).keeps hk (hnm x hx)
  · rw [List.map_cons, List.mem_cons] at hk'
    rcases hk' with rfl | rfl | hk'
    · obtain ⟨cs, t, hh⟩ := h.blk _ (.inl rfl)
      exact ⟨cs, t, hk.heap hh hcm⟩
    · obtain ⟨cs, t, hh⟩ := hfro
      exact ⟨cs, t, hk.heap hh n2⟩
    · obtain ⟨cs, t, hh⟩ := h.blk k (.inr hk')
      refine ⟨cs, t, hk.heap hh ?_⟩
      obtain ⟨x, hx, rfl⟩ := List.mem_map.1 hk'
      exact hnm x hx

/-- what lies in memory when s is out of the ring, but still of the cache: in the map, its cells there -/
theorem lru_out {w : World} {cb mb : Nat} {most : Int} {A B : List Node} {s : Node} (h : Lru w cb mb most (A ++ s :: B)) :
    ∃ u v : Lk, u ∈ (cb, 2) :: (A ++ B).map lk ∧ v ∈ (cb, 2) :: (A ++ B).map lk ∧ w.cell? ⟨s.1, 0 + 3, none⟩ = some (.pointer (some ⟨u.1, u.2, none⟩)) ∧ w.cell? ⟨s.1, 0 + 4, none⟩ = some (.pointer (some ⟨v.1, v.2, none⟩)) ∧
      (∃ y, w.cell? ⟨u.1, u.2 + 4, none⟩ = some y) ∧ (∃ y, w.cell? ⟨v.1, v.2 + 3, none⟩ = some y) ∧ (u.1 = v.1 → u.2 = v.2) ∧ u.1 ≠ s.1 ∧ v.1 ≠ s.1 ∧
      let w' := ((w.setCell ⟨u.1, u.2 + 4, none⟩ (.pointer (some ⟨v.1, v.2, none⟩))).setCell ⟨v.1, v.2 + 3, none⟩ (.pointer (some ⟨u.1, u.2, none⟩))).drew
      Sets (Tie u v) w w' ∧ Seq w' ((cb, 2) :: (A ++ B).map lk ++ [(cb, 2)]) ∧ LruB w' cb mb most (A ++ s :: B) := by
  have hap := h.apart
  have hseq := h.seq
  have e1 : (A ++ s :: B).map lk = A.map lk ++ lk s :: B.map lk := by simp
  have e2 : (A ++ B).map lk = A.map lk ++ B.map lk := by simp
  rw [e1] at hap hseq
  obtain ⟨u, v, hu, hv, c1, c2, c3, c4, hw⟩ := seq_out hseq hap
  have hu' : u ∈ (cb, 2) :: (A ++ B).map lk := by rw [e2]; simp only [List.mem_cons, List.mem_append] at hu ⊢; rcases hu with h | h <;> simp [h]
  have hv' : v ∈ (cb, 2) :: (A ++ B).map lk := by rw [e2]; simp only [List.mem_cons, List.mem_append, List.not_mem_nil, or_false] at hv ⊢; rcases hv with h | h <;> simp [h]
  have hup : ∀ {p : Lk}, p ∈ (cb, 2) :: (A ++ B).map lk → p ∈ (cb, 2) :: (A.map lk ++ lk s :: B.map lk) := by
    intro p hp
    rw [e2] at hp
    simp only [List.mem_cons, List.mem_append] at hp ⊢
    rcases hp with h | h | h <;> simp [h]
  have hxm : lk s ∈ (cb, 2) :: (A.map lk ++ lk s :: B.map lk) := by simp
  have hnx : ∀ {p : Lk}, p ∈ (cb, 2) :: (A ++ B).map lk → p.1 ≠ s.1 := by
    intro p hp e
    have := hap.inj (hup hp) hxm e
    subst this
    have hnd := hap.nodup
    rw [e2] at hp
    have h1 := List.nodup_cons.1 hnd
    have h2 := List.nodup_append.1 h1.2
    simp only [List.mem_cons, List.mem_append] at hp
    rcases hp with h | h | h
    · exact h1.1 (by rw [← h]; simp)
    · exact h2.2.2 _ h (lk s) (by simp) rfl
    · exact (List.nodup_cons.1 h2.2.1).1 h
  obtain ⟨yu, hyu⟩ := Option.isSome_iff_exists.1 c3
  obtain ⟨yv, hyv⟩ := Option.isSome_iff_exists.1 c4
  have hne : u.1 = v.1 → u.2 = v.2 := fun e => by rw [hap.inj (hup hu') (hup hv') e]
  have hset : Sets (Tie u v) w ((w.setCell ⟨u.1, u.2 + 4, none⟩ (.pointer (some ⟨v.1, v.2, none⟩))).setCell ⟨v.1, v.2 + 3, none⟩ (.pointer (some ⟨u.1, u.2, none⟩))).drew :=
    (((Sets.setCell w u.1 (u.2 + 4) _).mono (fun _ _ h => .inl h)).trans ((Sets.setCell _ v.1 (v.2 + 3) _).mono (fun _ _ h => .inr h))).drew
  have hS : ∀ {p : Lk}, p ∈ (cb, 2) :: (A.map lk ++ lk s :: B.map lk) → p ∈ (cb, 2) :: (A ++ s :: B).map lk := by intro p hp; rw [e1]; exact hp
  refine ⟨u, v, hu', hv', c1, c2, ⟨yu, hyu⟩, ⟨yv, hyv⟩, hne, hnx hu', hnx hv', hset, ?_, h.toLruB.sets hset (tie_links (hS (hup hu')) (hS (hup hv')))⟩
  rw [e2]
  refine hw _ hset ?_ ?_
  · rw [show bh u = ⟨u.1, u.2 + 4, none⟩ from rfl, World.cell?_drew, World.cell?_setCell_other _ _ _ _ (fun h => by
      simp only [Addr.mk.injEq] at h
      have := hne h.1.symm
      omega)]
    exact World.cell?_setCell_same _ _ _ hyu
  · rw [show ah v = ⟨v.1, v.2 + 3, none⟩ from rfl, World.cell?_drew]
    refine World.cell?_setCell_same _ _ _ (u := yv) ?_
    rw [World.cell?_setCell_other _ _ _ _ (fun h => by
      simp only [Addr.mk.injEq] at h
      have := hne h.1
      omega)]
    exact hyv

/-- the first one is hung in: s is of the cache, but for the ring -/
theorem lru_first {w : World} {cb mb : Nat} {most : Int} {N : List Node} {s : Node} (h : LruB w cb mb most (s :: N)) (hseq : Seq w ((cb, 2) :: N.map lk ++ [(cb, 2)])) (h3 : (w.cell? ⟨s.1, 3, none⟩).isSome = true) (h4 : (w.cell? ⟨s.1, 4, none⟩).isSome = true) :
    ∃ v : Lk, v ∈ (cb, 2) :: N.map lk ∧ w.cell? ⟨cb, 6, none⟩ = some (.pointer (some ⟨v.1, v.2, none⟩)) ∧ (∃ y, w.cell? ⟨s.1, 3, none⟩ = some y) ∧ (∃ y, w.cell? ⟨s.1, 4, none⟩ = some y) ∧ (∃ y, w.cell? ⟨v.1, v.2 + 3, none⟩ = some y) ∧
      cb ≠ s.1 ∧ v.1 ≠ s.1 ∧ (v.1 = cb → v.2 = 2) ∧
      let w' := ((((w.setCell ⟨s.1, 3, none⟩ (.pointer (some ⟨cb, 2, none⟩))).setCell ⟨s.1, 4, none⟩ (.pointer (some ⟨v.1, v.2, none⟩))).setCell ⟨cb, 6, none⟩ (.pointer (some ⟨s.1, 0, none⟩))).setCell ⟨v.1, v.2 + 3, none⟩ (.pointer (some ⟨s.1, 0, none⟩))).drew.drew
      Lru w' cb mb most (s :: N) ∧ Keeps (own cb mb (s :: N)) w w' ∧ w'.heap.size = w.heap.size := by
  have hap : Apart ((cb, 2) :: lk s :: N.map lk) := by
    unfold Apart
    have h1 := List.nodup_cons.1 h.nodup
    have e : ((cb, 2) :: lk s :: N.map lk).map (·.1) = cb :: (s :: N).map (·.1) := by simp [lk, Function.comp_def]
    rw [e]
    exact List.nodup_cons.2 ⟨fun hm => h1.1 (List.mem_cons_of_mem _ hm), (List.nodup_cons.1 h1.2).2⟩
  obtain ⟨v, hv, c6, cv, hw⟩ := seq_first hseq hap
  have hv' : v ∈ (cb, 2) :: N.map lk := by simp only [List.mem_cons, List.mem_append, List.not_mem_nil, or_false] at hv ⊢; rcases hv with h | h <;> simp [h]
  have hv2 : v ∈ (cb, 2) :: lk s :: N.map lk := by simp only [List.mem_cons] at hv' ⊢; rcases hv' with h | h <;> simp [h]
  obtain ⟨y3, hy3⟩ := Option.isSome_iff_exists.1 h3
  obtain ⟨y4, hy4⟩ := Option.isSome_iff_exists.1 h4
  obtain ⟨yv, hyv⟩ := Option.isSome_iff_exists.1 cv
  have hcs : cb ≠ s.1 := (h.cb_ne (s := s) (by simp)).1
  have hvs : v.1 ≠ s.1 := by
    intro e
    have := hap.inj hv2 (by simp : lk s ∈ _) e
    subst this
    have hnd := hap.nodup
    have h1 := List.nodup_cons.1 hnd
    simp only [List.mem_cons] at hv'
    rcases hv' with h | h
    · exact h1.1 (by rw [← h]; simp)
    · exact (List.nodup_cons.1 h1.2).1 h
  have hvc : v.1 = cb → v.2 = 2 := fun e => by rw [hap.inj hv2 (by simp : (cb, 2) ∈ _) e]
  have hset := ((((Sets.setCell w s.1 3 (.pointer (some ⟨cb, 2, none⟩))).mono (U := fun b o => (b = cb ∧ o = 2 + 4) ∨ (b = v.1 ∧ o = v.2 + 3) ∨ (b = s.1 ∧ 3 ≤ o)) (fun b o h => .inr (.inr ⟨h.1, by omega⟩))).trans
    ((Sets.setCell _ s.1 4 (.pointer (some ⟨v.1, v.2, none⟩))).mono (fun b o h => .inr (.inr ⟨h.1, by omega⟩)))).trans
    ((Sets.setCell _ cb 6 (.pointer (some ⟨s.1, 0, none⟩))).mono (fun b o h => .inl h))).trans ((Sets.setCell _ v.1 (v.2 + 3) (.pointer (some ⟨s.1, 0, none⟩))).mono (fun b o h => .inr (.inl h)))
  have hset2 := hset.drew.drew
  have hlinks : ∀ b o, ((b = cb ∧ o = 2 + 4) ∨ (b = v.1 ∧ o = v.2 + 3) ∨ (b = s.1 ∧ 3 ≤ o)) → Links cb (s :: N) b o := by
    rintro b o (⟨rfl, rfl⟩ | ⟨rfl, rfl⟩ | ⟨rfl, h⟩)
    · exact .inl ⟨rfl, by omega⟩
    · rcases mem_links hv' with rfl | ⟨h0, hm⟩
      · exact .inl ⟨rfl, by show 5 ≤ 2 + 3; omega⟩
      · exact .inr ⟨by simp only [List.map_cons]; exact List.mem_cons_of_mem _ hm, by omega⟩
    · exact .inr ⟨by simp, h⟩
  have hxc := Ne.symm hcs
  have hxv := Ne.symm hvs
  refine ⟨v, hv', c6, ⟨y3, hy3⟩, ⟨y4, hy4⟩, ⟨yv, hyv⟩, hcs, hvs, hvc, ⟨h.sets hset2 hlinks, ?_⟩, Links.keeps hset2 hlinks, hset2.size⟩
  refine hw _ (hset2.mono (fun b o hh => ?_)) ?_ ?_ ?_ ?_
  · rcases hh with hh | hh | hh
    · exact .inl hh
    · exact .inr (.inl hh)
    · exact .inr (.inr hh.1)
  · rw [show ah (lk s) = ⟨s.1, 3, none⟩ from rfl, World.cell?_drew, World.cell?_drew, World.cell?_setCell_far _ _ _ _ hvs, World.cell?_setCell_far _ _ _ _ hcs, World.cell?_setCell_other _ _ _ _ (fun h => by cases h)]
    exact World.cell?_setCell_same _ _ _ hy3
  · rw [show bh (lk s) = ⟨s.1, 4, none⟩ from rfl, World.cell?_drew, World.cell?_drew, World.cell?_setCell_far _ _ _ _ hvs, World.cell?_setCell_far _ _ _ _ hcs]
    refine World.cell?_setCell_same _ _ _ (u := y4) ?_
    rw [World.cell?_setCell_other _ _ _ _ (fun h => by cases h)]; exact hy4
  · rw [show bh ((cb, 2) : Lk) = ⟨cb, 6, none⟩ from rfl, World.cell?_drew, World.cell?_drew, World.cell?_setCell_other _ _ _ _ (fun h => by
      simp only [Addr.mk.injEq] at h
      have := hvc h.1
      omega)]
    refine World.cell?_setCell_same _ _ _ (u := .pointer (some ⟨v.1, v.2, none⟩)) ?_
    rw [World.cell?_setCell_far _ _ _ _ hxc, World.cell?_setCell_far _ _ _ _ hxc]; exact c6
  · rw [show ah v = ⟨v.1, v.2 + 3, none⟩ from rfl, World.cell?_drew, World.cell?_drew]
    refine World.cell?_setCell_same _ _ _ (u := yv) ?_
    rw [World.cell?_setCell_other _ _ _ _ (fun h => by
      simp only [Addr.mk.injEq] at h
      have := hvc h.1.symm
      omega), World.cell?_setCell_far _ _ _ _ hxv, World.cell?_setCell_far _ _ _ _ hxv]; exact hyv
theorem Seq.sets {T : Nat → Nat → Prop} {w w' : World} (hs : Sets T w w') : ∀ {l : List Lk}, Seq w l → (∀ p ∈ l, ¬ T p.1 (p.2 + 3) ∧ ¬ T p.1 (p.2 + 4)) → Seq w' l
  | [], _, _ => trivial
  | [_], _, _ => trivial
  | a :: b :: l, h, hn => ⟨⟨(hs.cell _ _ (hn a (by simp)).2).trans h.1.1, (hs.cell _ _ (hn b (by simp)).1).trans h.1.2⟩, Seq.sets hs h.2 (fun p hp => hn p (List.mem_cons_of_mem _ hp))⟩
/-- the value and the mark of an entry are written -/
theorem Lru.edit {w w' : World} {cb mb : Nat} {most : Int} {A B : List Node} {s : Node} (h : Lru w cb mb most (A ++ s :: B)) {e : Ent} (he : e.key = s.2.key) {T : Nat → Nat → Prop} (hs : Sets T w w') (ht : ∀ b o, T b o → b = s.1 ∧ o < 3) (hent : EntAt w' s.1 0 e) : Lru w' cb mb most (A ++ (s.1, e) :: B) := by
  have hsm : s ∈ A ++ s :: B := by simp
  have hfst : (A ++ (s.1, e) :: B).map (·.1) = (A ++ s :: B).map (·.1) := by simp
  have hkey : (A ++ (s.1, e) :: B).map (·.2.key) = (A ++ s :: B).map (·.2.key) := by simp [he]
  have hlk : (A ++ (s.1, e) :: B).map lk = (A ++ s :: B).map lk := by simp [lk]
  have hne := h.toLruB.cb_ne hsm
  have hcb : ∀ o, ¬ T cb o := fun o hT => hne.1 (ht _ _ hT).1
  have hmb : ∀ o, ¬ T mb o := fun o hT => hne.2.1 (ht _ _ hT).1
  have hnd : ∀ x, x ∈ A ∨ x ∈ B → x.1 ≠ s.1 := by
    intro x hx e
    have h1 := (List.nodup_cons.1 (List.nodup_cons.1 h.nodup).2).2
    rw [List.map_append, List.map_cons] at h1
    have h2 := List.nodup_append.1 h1
    rcases hx with hx | hx
    · exact h2.2.2 x.1 (List.mem_map_of_mem hx) s.1 (by simp) e
    · exact (List.nodup_cons.1 h2.2.1).1 (by rw [← e]; exact List.mem_map_of_mem (f := fun x : Node => x.1) hx)
  obtain ⟨f, ⟨es, c, h1, h2⟩, hf1, hf2, hf3⟩ := h.map
  refine ⟨⟨(hs.cell _ _ (hcb 0)).trans h.most, (hs.cell _ _ (hcb 1)).trans h.at_, ⟨f, ⟨es, c, (hs.block _ hmb).trans h1, h2⟩, hf1, by rw [hf2]; simp, fun k v => ?_⟩, by rw [hfst]; exact h.nodup, by rw [hkey]; exact h.keys, fun x hx => ?_, fun k hk => ?_⟩, ?_⟩
  · rw [hf3]
    constructor
    · rintro ⟨x, hx, hk, hv⟩
      simp only [List.mem_append, List.mem_cons] at hx
      rcases hx with hx | rfl | hx
      · exact ⟨x, by simp [hx], hk, hv⟩
      · exact ⟨(x.1, e), by simp, he.trans hk, hv⟩
      · exact ⟨x, by simp [hx], hk, hv⟩
    · rintro ⟨x, hx, hk, hv⟩
      simp only [List.mem_append, List.mem_cons] at hx
      rcases hx with hx | rfl | hx
      · exact ⟨x, by simp [hx], hk, hv⟩
      · exact ⟨s, hsm, he.symm.trans hk, hv⟩
      · exact ⟨x, by simp [hx], hk, hv⟩
  · simp only [List.mem_append, List.mem_cons] at hx
    have hold : ∀ x, x ∈ A ∨ x ∈ B → EntAt w' x.1 0 x.2 := fun x hx => by
      have hn : ∀ o, ¬ T x.1 o := fun o hT => hnd x hx (ht _ _ hT).1
      exact (h.ent x (by rcases hx with hx | hx <;> simp [hx])).cong (hs.cell _ _ (hn _)) (hs.cell _ _ (hn _)) (hs.cell _ _ (hn _))
    rcases hx with hx | rfl | hx
    · exact hold x (.inl hx)
    · exact hent
    · exact hold x (.inr hx)
  · obtain ⟨cs, t, hh⟩ := h.blk k (by rw [← hfst]; exact hk)
    obtain ⟨cs', h'⟩ := hs.kind k cs t hh
    exact ⟨cs', t, h'⟩
  · rw [hlk]
    refine Seq.sets hs h.seq (fun p hp => ?_)
    have hp2 : p = (cb, 2) ∨ (p.2 = 0 ∧ p.1 ∈ (A ++ s :: B).map (·.1)) := by
      refine mem_links ?_
      simp only [List.mem_append, List.mem_cons, List.not_mem_nil, or_false, List.map_append, List.map_cons] at hp ⊢
      rcases hp with (h | h) | h
      · exact .inl h
      · exact .inr h
      · exact .inl h
    rcases hp2 with rfl | ⟨h0, _⟩
    · exact ⟨hcb _, hcb _⟩
    · rw [h0]
      exact ⟨fun hT => by have := (ht _ _ hT).2; omega, fun hT => by have := (ht _ _ hT).2; omega⟩
end Go.Proofs.Ytnickcjkipemmaa
