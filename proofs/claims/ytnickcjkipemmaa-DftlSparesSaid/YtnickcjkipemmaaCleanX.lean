/- Clean whole, in the words of the spec -/
import Derived.Test.YtnickcjkipemmaaSort
import Derived.Test.YtnickcjkipemmaaMost
import Derived.Shelf.SlSortCmp.NoneTotal
namespace Go.Proofs.Ytnickcjkipemmaa
open Go.RowKit Go.Sort

theorem sort_none (cap : Nat) (w : World) : Calls Try.prog 43 #[.slice none 0 cap, .func (.func 44) #[] #[]] w fun e w' => e = .returned (.tuple #[]) ∧ w' = w := by
  have h := AnyF.slices_SortFunc_none Try.sortE none cap (.func (.func 44) #[] #[]) w
  change Calls Try.prog 43 _ _ _ at h
  exact h

/-- what Clean answers: the changed entries of the range, by rising keys -/
def CleanOf (lo hi : Int) (L M : List Ent) : Prop := M.Perm (lpick lo hi L) ∧ SortedK M
theorem CleanOf.unique {lo hi : Int} {L M M' : List Ent} (h : CleanOf lo hi L M) (h' : CleanOf lo hi L M') : M = M' := sorted_unique (h.1.trans h'.1.symm) h.2 h'.2
def CleanOut (w : World) (cb : Nat) (most lo hi : Int) (L : List Ent) (O : Nat → Prop) (e : Ending) (w' : World) : Prop :=
  ∃ M a cap, e = .returned (.slice a M.length cap) ∧ CleanOf lo hi L M ∧ EntRow w' 32 a cap M ∧ (∀ g, blk a = some g → w.heap.size ≤ g) ∧ LruX w' cb most (lclr lo hi L) O ∧ Keeps O w w'

theorem cleanX {w : World} {cb : Nat} {most lo hi : Int} {L : List Ent} {O : Nat → Prop} (h : LruX w cb most L O) (hlen : L.length ≤ 1000000) :
    Calls Try.prog 20 #[.pointer (some ⟨cb, 0, none⟩), .int .i64 lo, .int .i64 hi] w (CleanOut w cb most lo hi L O) := by
  obtain ⟨mb, S, h1, rfl, rfl⟩ := h
  refine clean_walk h1 (by simpa using hlen) (fun a cap w' hC => ?_)
  obtain ⟨a', cap', hv, hr, hge⟩ := hC.row
  simp only [Value.slice.injEq] at hv
  obtain ⟨rfl, _, rfl⟩ := hv
  have hL : Lru w' cb mb most (S.map (clrN lo hi)) := by have := hC.lru; rwa [List.append_nil] at this
  have hK : Keeps (own cb mb S) w w' := by have := hC.keep; rwa [List.append_nil] at this
  have hold : ∀ k, own cb mb S k → k < w.heap.size := by have := hC.old; rwa [List.append_nil] at this
  have hown : own cb mb S = own cb mb (S.map (clrN lo hi)) := by
    funext k
    unfold own
    rw [clrN_fst]
  have hnd : ((lpick lo hi (S.map (·.2))).map (·.key)).Nodup := by
    have h2 := h1.keys
    have e : S.map (·.2.key) = (S.map (·.2)).map (·.key) := by simp [Function.comp_def]
    rw [e] at h2
    exact h2.sublist ((List.filter_sublist).map _)
  have hll : (lpick lo hi (S.map (·.2))).length ≤ 1000000 := by
    have := List.length_filter_le (inR lo hi) (S.map (·.2))
    unfold lpick
    simp only [List.length_map] at hlen this
    omega
  rcases hr.form with ⟨rfl, h2, h3⟩ | ⟨g, cur, rfl, _⟩
  · have hn : lpick lo hi (S.map (·.2)) = [] := List.eq_nil_of_length_eq_zero h2
    subst h3
    have hs := sort_none 0 w'
    rw [h2]
    refine hs.mono ?_
    rintro e w2 ⟨rfl, rfl⟩
    refine ⟨rfl, [], none, 0, rfl, ⟨by rw [hn], List.Pairwise.nil⟩, RowAt.nil _ _ _, (fun g h => by cases h), ⟨mb, _, hL, clrN_map S, hown⟩, hK⟩
  · refine (sort_any hr hll hnd).mono ?_
    rintro e w2 ⟨rfl, M, hp, hs, hr2, hk2⟩
    have hg := hge g rfl
    refine ⟨rfl, M, some ⟨g, 0, none⟩, cap, by rw [hp.length_eq], ⟨hp, hs⟩, hr2, (fun g' h => by cases h; exact hg), ⟨mb, _, hL.keeps hk2 (fun k hk e => ?_), clrN_map S, hown⟩, hK.trans' hk2 (fun j hj => .inr (by rw [hj]; exact hg))⟩
    rw [← hown] at hk
    have := hold k hk
    omega
end Go.Proofs.Ytnickcjkipemmaa
