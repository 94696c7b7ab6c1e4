/- LruPlays: the cache beside the reference: what holds of both -/
import Derived.Test.YtnickcjkipemmaaRefC
import Derived.Test.YtnickcjkipemmaaRefQB
import Derived.Test.YtnickcjkipemmaaRefR
import Derived.Test.YtnickcjkipemmaaCleanX
namespace Go.Proofs.Ytnickcjkipemmaa
open Go.RowKit

attribute [local go_sem ↓] Go.wp_at_zero Go.wp_at_succ

theorem rcleanX {w : World} {rb : Nat} {most : Int} {l : List Ent} {R : Nat → Prop} (h : RefX w rb most l R) (lo hi : Int) (hnd : (l.map (·.key)).Nodup) (hlen : l.length ≤ 1000000) :
    Calls Try.prog 25 #[.pointer (some ⟨rb, 0, none⟩), .int .i64 lo, .int .i64 hi] w (RClean w rb most lo hi l R) := by
  obtain ⟨a, cap, hB, rfl⟩ := h
  exact rclean_any hB lo hi hnd hlen

set_option maxHeartbeats 1000000 in
theorem new_none (most : Int) (w : World) (hm : most < 1) : Calls Try.prog 14 #[.int .i64 most] w fun e w' => e = .returned (.tuple #[.pointer none, .int .i64 1]) ∧ Keeps Nil w w' := by
  have d1 := decide_eq_true hm
  clear hm
  go_enter Try.func14, Try.ntmps14
  go_wp2_with fail
  go_ret2
  first
  | exact ⟨rfl, Keeps.refl _ _⟩
  | exact ⟨rfl, (Keeps.refl _ _).alloc _⟩

structure PlayW (w0 w : World) (cb rb : Nat) (most : Int) (l m : List Ent) (O R : Nat → Prop) : Prop where
  c : LruX w cb most l O
  r : RefX w rb most m R
  k : Keeps Nil w0 w
  o : ∀ k, O k → w0.heap.size ≤ k
  rg : ∀ k, R k → w0.heap.size ≤ k
  no : ∀ k, O k → ¬ R k
/-- beside a block of an operation's own -/
structure PlayO (w0 w : World) (cb rb : Nat) (most : Int) (l m : List Ent) (O R : Nat → Prop) (tb : Nat) (cs : Array Value) : Prop where
  p : PlayW w0 w cb rb most l m O R
  h : w.heap[tb]? = some (.cells cs 44)
  nO : ¬ O tb
  nR : ¬ R tb
variable {w0 w w' : World} {cb rb tb : Nat} {cs : Array Value} {most : Int} {l m l' m' : List Ent} {O R : Nat → Prop} {v : Value} {e : Ending}
theorem PlayW.nil (h : PlayW w0 w cb rb most l m O R) (hk : Keeps Nil w w') : PlayW w0 w' cb rb most l m O R := ⟨h.c.nil hk, h.r.nil hk, h.k.trans hk, h.o, h.rg, h.no⟩
theorem PlayO.nil (h : PlayO w0 w cb rb most l m O R tb cs) (hk : Keeps Nil w w') : PlayO w0 w' cb rb most l m O R tb cs := ⟨h.p.nil hk, hk.heap h.h (fun h => h), h.nO, h.nR⟩
theorem PlayO.cache (h : PlayO w0 w cb rb most l m O R tb cs) (hc : CacheOut w cb most O v l' e w') : e = .returned v ∧ ∃ O', PlayO w0 w' cb rb most l' m O' R tb cs ∧ Keeps O w w' := by
  obtain ⟨he, O', h1, h2, h3⟩ := hc
  have htb := lt_of_heap h.h
  refine ⟨he, O', ⟨⟨h1, h.p.r.keeps h2 (fun k hr ho => h.p.no k ho hr), h.p.k.trans' h2 (fun k ho => .inr (h.p.o k ho)), fun k ho => ?_, h.p.rg, fun k ho hr => ?_⟩, h2.heap h.h h.nO, fun ho => ?_, h.nR⟩, h2⟩
  · rcases h3 k ho with h4 | h4
    · exact h.p.o k h4
    · exact Nat.le_trans h.p.k.size h4.1
  · rcases h3 k ho with h4 | h4
    · exact h.p.no k h4 hr
    · have := h.p.r.lt hr; omega
  · rcases h3 tb ho with h4 | h4
    · exact h.nO h4
    · omega
theorem PlayO.ref (h : PlayO w0 w cb rb most l m O R tb cs) (hc : ROut w rb most R v m' e w') : e = .returned v ∧ ∃ R', PlayO w0 w' cb rb most l m' O R' tb cs ∧ Keeps R w w' := by
  obtain ⟨he, R', h1, h2, h3⟩ := hc
  have htb := lt_of_heap h.h
  refine ⟨he, R', ⟨⟨h.p.c.keeps h2 (fun k ho => h.p.no k ho), h1, h.p.k.trans' h2 (fun k hr => .inr (h.p.rg k hr)), h.p.o, fun k hr => ?_, fun k ho hr => ?_⟩, h2.heap h.h h.nR, h.nO, fun hr => ?_⟩, h2⟩
  · rcases h3 k hr with h4 | h4
    · exact h.p.rg k h4
    · exact Nat.le_trans h.p.k.size h4
  · rcases h3 k hr with h4 | h4
    · exact h.p.no k ho h4
    · have := h.p.c.lt ho; omega
  · rcases h3 tb hr with h4 | h4
    · exact h.nR h4
    · omega
theorem PlayO.clean {lo hi : Int} (h : PlayO w0 w cb rb most l m O R tb cs) (hc : CleanOut w cb most lo hi l O e w') :
    ∃ M a cap, e = .returned (.slice a M.length cap) ∧ CleanR lo hi l M ∧ EntRow w' 32 a cap M ∧ (∀ g, blk a = some g → w.heap.size ≤ g) ∧ PlayO w0 w' cb rb most (lclr lo hi l) m O R tb cs ∧ Keeps O w w' := by
  obtain ⟨M, a, cap, h1, h2, h3, h4, h5, h6⟩ := hc
  exact ⟨M, a, cap, h1, h2, h3, h4, ⟨⟨h5, h.p.r.keeps h6 (fun k hr ho => h.p.no k ho hr), h.p.k.trans' h6 (fun k ho => .inr (h.p.o k ho)), h.p.o, h.p.rg, h.p.no⟩, h6.heap h.h h.nO, h.nO, h.nR⟩, h6⟩
theorem PlayO.rclean {lo hi : Int} (h : PlayO w0 w cb rb most l m O R tb cs) (hc : RClean w rb most lo hi m R e w') :
    ∃ M a cap, e = .returned (.slice a M.length cap) ∧ CleanR lo hi m M ∧ EntRow w' 54 a cap M ∧ (∀ g, blk a = some g → w.heap.size ≤ g) ∧ PlayO w0 w' cb rb most l (lclr lo hi m) O R tb cs ∧ Keeps R w w' := by
  obtain ⟨M, a, cap, h1, h2, h3, h4, h5, h6⟩ := hc
  exact ⟨M, a, cap, h1, h2, h3, h4, ⟨⟨h.p.c.keeps h6 (fun k ho => h.p.no k ho), h5, h.p.k.trans' h6 (fun k hr => .inr (h.p.rg k hr)), h.p.o, h.p.rg, h.p.no⟩, h6.heap h.h h.nR, h.nO, h.nR⟩, h6⟩
theorem lfront_len (k : Int) (l : List Ent) : (lfront k l).length = l.length := lfront_length
theorem lclr_len (lo hi : Int) (l : List Ent) : (lclr lo hi l).length = l.length := by simp [lclr]
theorem ldel_len (k : Int) (l : List Ent) : (ldel k l).length ≤ l.length := by rw [ldel_length]; omega
end Go.Proofs.Ytnickcjkipemmaa
