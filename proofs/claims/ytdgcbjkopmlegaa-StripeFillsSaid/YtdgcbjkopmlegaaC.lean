/- stripe: may a leaf be? both texts -/
import Derived.Test.YtdgcbjkopmlegaaB
namespace Go.Proofs.Ytdgcbjkopmlegaa
open Go.RowKit

attribute [local go_sem ↓] Go.wp_at_zero Go.wp_at_succ

def mayB (S N : Int) (x : Lf) : Bool := decide ((x.sl.length : Int) = N) && (decide ((x.se.length : Int) = N) && (!(x.sl.any slBad) && !(x.se.any (secBad S))))

set_option maxHeartbeats 4000000 in
set_option maxRecDepth 100000 in
theorem may25 {w : World} {sa ba : Option Addr} {sc bc : Nat} {x : Lf} (S N T : Int) (h : LfAt w sa ba x) (hok : LfOk x) :
    Calls Try.prog 25 #[.agg #[.int .i64 S, .int .i64 N, .int .i64 T], .agg #[.slice sa x.sl.length sc, .slice ba x.se.length bc]] w fun e w' => e = .returned (.bool (mayB S N x)) ∧ Keeps Nil w w' := by
  have hm : mayB S N x = (decide ((x.sl.length : Int) = N) && (decide ((x.se.length : Int) = N) && (!(x.sl.any slBad) && !(x.se.any (secBad S))))) := rfl
  have hA := Lib.hid (show ∀ W, Keeps Nil w W → Calls Try.prog 29 #[.slice sa x.sl.length sc, .func (.func 30) #[] #[]] W fun e w' => e = .returned (.bool (x.sl.any slBad)) ∧ Keeps Nil W w' from fun W hW => any29 (h.sl.nil hW) hok.1)
  have hB := Lib.hid (show ∀ W lb, Keeps Nil w W → W.cell? ⟨lb, 0, none⟩ = some (.int .i64 S) → Calls Try.prog 31 #[.slice ba x.se.length bc, .func (.func 32) #[] #[.pointer (some ⟨lb, 0, none⟩)]] W fun e w' => e = .returned (.bool (x.se.any (secBad S))) ∧ Keeps Nil W w' from fun W lb hW hS => any31 (h.se.nil hW) hS hok.2.1)
  obtain ⟨p, hp⟩ : ∃ p, x.sl.any slBad = p := ⟨_, rfl⟩
  obtain ⟨q, hq⟩ : ∃ q, x.se.any (secBad S) = q := ⟨_, rfl⟩
  obtain ⟨n, hn⟩ : ∃ n, x.sl.length = n := ⟨_, rfl⟩
  obtain ⟨m, hmm⟩ : ∃ m, x.se.length = m := ⟨_, rfl⟩
  rw [hn, hmm, hp, hq] at hm
  rw [hn, hp] at hA
  rw [hmm, hq] at hB
  rw [hn, hmm]
  clear hn hmm hp hq h hok
  have hm' := Lib.hid hm
  clear hm
  have hmf : ∀ (fn : Fn) (first cap : Array Value) (w : World), (Instr.makeFunc fn first cap).run Try.prog w = .ok (.func fn first cap) w := fun _ _ _ _ => rfl
  by_cases h1 : (n : Int) = N
  · have e1 : ((n : Int) == N) = true := by simpa using h1
    by_cases h2 : (m : Int) = N
    · have e2 : ((m : Int) == N) = true := by simpa using h2
      have hm2 := Lib.hid (show mayB S N x = (!p && !q) by rw [hm'.out, decide_eq_true h1, decide_eq_true h2]; rfl)
      clear h1 h2 hm'
      cases p
      · go_enter Try.func25, Try.ntmps25
        go_wp2_with fail
        refine (hA.out _ (((Keeps.refl Nil w).alloc _).alloc _)).mono ?_
        rintro e w2 ⟨rfl, hk2⟩
        have b0 := hk2.cell (b := w.heap.size) (o := 0) (v := .int .i64 S) (by simp [go_sem]) (fun h => h)
        have b1 := hk2.cell (b := w.heap.size) (o := 1) (v := .int .i64 N) (by simp [go_sem]) (fun h => h)
        have b2 := hk2.cell (b := w.heap.size + 1) (o := 1) (v := .slice ba m bc) (by simp [go_sem]) (fun h => h)
        have hkA := Lib.hid ((((Keeps.refl Nil w).alloc _).alloc _).trans hk2)
        clear hk2
        go_wp2_with fail
        cases q
        · skip
          refine (hB.out _ _ hkA.out b0).mono ?_
          rintro e w3 ⟨rfl, hk3⟩
          have hkB := Lib.hid (hkA.out.trans hk3)
          clear hk3
          go_wp2_with fail
          go_ret
          exact ⟨ret_bool hm2.out.symm, hkB.out⟩
        · skip
          refine (hB.out _ _ hkA.out b0).mono ?_
          rintro e w3 ⟨rfl, hk3⟩
          have hkB := Lib.hid (hkA.out.trans hk3)
          clear hk3
          go_wp2_with fail
          go_ret
          exact ⟨ret_bool hm2.out.symm, hkB.out⟩
      · go_enter Try.func25, Try.ntmps25
        go_wp2_with fail
        refine (hA.out _ (((Keeps.refl Nil w).alloc _).alloc _)).mono ?_
        rintro e w2 ⟨rfl, hk2⟩
        have hkA := Lib.hid ((((Keeps.refl Nil w).alloc _).alloc _).trans hk2)
        clear hk2
        go_wp2_with fail
        go_ret
        exact ⟨ret_bool hm2.out.symm, hkA.out⟩
    · have e2 : ((m : Int) == N) = false := by simpa using h2
      have hm2 := Lib.hid (show mayB S N x = false by rw [hm'.out, decide_eq_true h1, decide_eq_false h2]; rfl)
      clear h1 h2 hm'
      go_enter Try.func25, Try.ntmps25
      go_wp2_with fail
      go_ret
      exact ⟨ret_bool hm2.out.symm, ((Keeps.refl Nil w).alloc _).alloc _⟩
  · have e1 : ((n : Int) == N) = false := by simpa using h1
    have hm2 := Lib.hid (show mayB S N x = false by rw [hm'.out, decide_eq_false h1]; rfl)
    clear h1 hm'
    go_enter Try.func25, Try.ntmps25
    go_wp2_with fail
    go_ret
    exact ⟨ret_bool hm2.out.symm, ((Keeps.refl Nil w).alloc _).alloc _⟩
end Go.Proofs.Ytdgcbjkopmlegaa
