/- stripe: are two leaves the same? (leaves that are) -/
import Derived.Test.YtdgcbjkopmlegaaE
import Derived.Laws.StructEq
import Derived.Laws.BytesArg
namespace Go.Proofs.Ytdgcbjkopmlegaa
open Go.RowKit

attribute [local go_sem ↓] Go.wp_at_zero Go.wp_at_succ

theorem neq44 (x : Sl) (w : World) : (binOp .neq 44 (.agg #[.int .u32 x.key, .int .i64 x.st, .int .u64 x.seq]) (.agg #[.int .u32 x.key, .int .i64 x.st, .int .u64 x.seq])).run Try.prog w = .ok (.bool false) w := by
  have u3 := Try.underlying3
  have u41 := Try.underlying41
  have u42 := Try.underlying42
  have hS : Try.prog.underlying 44 = some (.struct (Try.prog.fieldsOf 44)) := by kernel_rfl
  have hp : Try.prog.stoodInHeld 44 = false := by kernel_rfl
  rw [run_neq_struct, show (10000 : Nat) = 9999 + 1 from rfl, run_equalIn_agg w 9999 44 _ _ hS hp]
  simp only [Program.fieldsOf, Try.underlying44]
  go_simp
  done

/-- bytes as a string -/
theorem run_str {w : World} {a : Option Addr} {cap : Nat} {d : List Int} (h : NumsAt .u8 w a d) : (convert 45 9 (.slice a d.length cap)).run Try.prog w = .ok (.string (strOfNums d)) w := by
  cases a with
  | none =>
    have : d = [] := by
      cases d with
      | nil => rfl
      | cons x r => obtain ⟨b, off, e, _⟩ := h 0 (by simp); cases e
    subst this
    exact run_convert_bytes_nil w 45 5 Try.underlying45 Try.underlying5 _ _ 9 Try.underlying9
  | some ad =>
    cases hd : d with
    | nil =>
      rw [run_convert_bytes_string w 45 9 5 _ _ cap Try.underlying45 Try.underlying5 Try.underlying9, List.length_nil, run_bytesToString w ad 0 cap [] (by
        have := run_loadCells_list (P := Try.prog) w ad [] (fun j v hj => by simp at hj)
        simpa using this)]
      rfl
    | cons x r =>
      obtain ⟨b, off, e, _⟩ := h 0 (by rw [hd]; simp)
      cases e
      rw [← hd]
      exact run_convert_bytes_arg w 45 5 Try.underlying45 Try.underlying5 b off d.length cap d rfl (fun i hi => by
        obtain ⟨b', off', e, hc⟩ := h i hi
        cases e
        rw [hc]; rfl) 9 Try.underlying9
theorem run_neq_str (s : ByteArray) (w : World) : (binOp .neq 9 (.string s) (.string s)).run Try.prog w = .ok (.bool false) w := by
  simp [binOp, Op.stringOp]

set_option maxHeartbeats 4000000 in
set_option maxRecDepth 100000 in
theorem same16 {w : World} {sa ba sb bb : Option Addr} {sc bc sd bd : Nat} {x : Lf} (h1 : LfAt w sa ba x) (h2 : LfAt w sb bb x) (hok : LfOk x) :
    Calls Try.prog 16 #[.agg #[.slice sa x.sl.length sc, .slice ba x.se.length bc], .agg #[.slice sb x.sl.length sd, .slice bb x.se.length bd]] w fun e w' => e = .returned (.bool true) ∧ Keeps Nil w w' := by
  have h1' := Lib.hid h1
  have h2' := Lib.hid h2
  have hb1 := hok.1
  have hb2 := hok.2.1
  obtain ⟨n, hn⟩ : ∃ n, x.sl.length = n := ⟨_, rfl⟩
  obtain ⟨m, hm⟩ : ∃ m, x.se.length = m := ⟨_, rfl⟩
  rw [hn] at hb1
  rw [hm] at hb2
  rw [hn, hm]
  have e1 : (n != n) = false := by simp
  have e2 : (m != m) = false := by simp
  have e1' : ((n : Int) != (n : Int)) = false := by simp
  have e2' : ((m : Int) != (m : Int)) = false := by simp
  have hn' := Lib.hid hn
  have hm' := Lib.hid hm
  clear h1 h2 hok hn hm
  go_enter Try.func16, Try.ntmps16
  go_wp2_with fail
  have hA1 : Keeps Nil w ((w.alloc (.cells #[.slice sa n sc, .slice ba m bc] 35)).alloc (.cells #[.slice sb n sd, .slice bb m bd] 35)) := ((Keeps.refl Nil w).alloc _).alloc _
  have hx1 := heap_alloc_old (o' := .cells #[.slice sb n sd, .slice bb m bd] 35) (heap_alloc_new w (.cells #[.slice sa n sc, .slice ba m bc] 35))
  have hx2 := heap_alloc_new (w.alloc (.cells #[.slice sa n sc, .slice ba m bc] 35)) (.cells #[.slice sb n sd, .slice bb m bd] 35)
  rw [heap_alloc_size] at hx2
  obtain ⟨w2, hw2⟩ : ∃ w2, (w.alloc (.cells #[.slice sa n sc, .slice ba m bc] 35)).alloc (.cells #[.slice sb n sd, .slice bb m bd] 35) = w2 := ⟨_, rfl⟩
  rw [hw2] at hA1 hx1 hx2 ⊢
  have hA1' := Lib.hid hA1
  have hx1' := Lib.hid hx1
  have hx2' := Lib.hid hx2
  clear hw2 hA1 hx1 hx2
  go_loopw [5] (fun c wx => ∃ q : Nat, q ≤ n ∧ c = .int .i64 q ∧ Keeps Nil w2 wx) (fun c _ => n - (intOf c).toNat)
  case atStart => exact ⟨0, Nat.zero_le _, rfl, Keeps.refl _ _⟩
  case round =>
    obtain ⟨q, hq, rfl, hK⟩ := hrel
    have kk := hA1'.out.trans hK
    have hKK := Lib.hid hK
    have v1 := hK.heap hx1'.out (fun h => h)
    have v2 := hK.heap hx2'.out (fun h => h)
    have l0 := cell_of_heap v1 0
    have l1 := cell_of_heap v1 1
    have o0 := cell_of_heap v2 0
    have o1 := cell_of_heap v2 1
    simp at l0 l1 o0 o1
    by_cases hlt : q < n
    · have hq1 : q < x.sl.length := by rw [hn'.out]; exact hlt
      obtain ⟨xb, xo, rfl, x0, x1, x2⟩ := (h1'.out.sl.nil kk) q hq1
      obtain ⟨zb, zo, rfl, z0, z1, z2⟩ := (h2'.out.sl.nil kk) q hq1
      obtain ⟨s, hs⟩ : ∃ s, x.sl[q] = s := ⟨_, rfl⟩
      rw [hs] at x0 x1 x2 z0 z1 z2
      have hne := fun W => neq44 s W
      obtain ⟨ks, ss, qs⟩ := s
      simp only at x0 x1 x2 z0 z1 z2 hne
      clear hK kk v1 v2 hs hq1
      go_wp2_with fail
      go_quiet (fail)
      go_wp2_with fail
      go_roundw
      case rel => exact ⟨q + 1, by omega, by go_num, hKK.out.drewN _⟩
      case measure => simp [intOf]; omega
    · clear hK kk v1 v2
      go_wp2_with fail
      go_loopw [6] (fun c wx => ∃ q : Nat, q ≤ m ∧ c = .int .i64 q ∧ Keeps Nil w2 wx) (fun c _ => m - (intOf c).toNat)
      case atStart => exact ⟨0, Nat.zero_le _, rfl, hKK.out⟩
      case round =>
        obtain ⟨q2, hq2, rfl, hK⟩ := hrel
        have kk := hA1'.out.trans hK
        have hK2 := Lib.hid hK
        have v1 := hK.heap hx1'.out (fun h => h)
        have v2 := hK.heap hx2'.out (fun h => h)
        have m0 := cell_of_heap v1 0
        have m1 := cell_of_heap v1 1
        have p0 := cell_of_heap v2 0
        have p1 := cell_of_heap v2 1
        simp at m0 m1 p0 p1
        by_cases hlt2 : q2 < m
        · have hq1 : q2 < x.se.length := by rw [hm'.out]; exact hlt2
          obtain ⟨xb, xo, a1, c1, rfl, x0, x1⟩ := (h1'.out.se.nil kk) q2 hq1
          obtain ⟨zb, zo, a2, c2, rfl, z0, z1⟩ := (h2'.out.se.nil kk) q2 hq1
          obtain ⟨d, hd⟩ : ∃ d, x.se[q2] = d := ⟨_, rfl⟩
          rw [hd] at x0 x1 z0 z1
          have hne := fun W => run_neq_str (strOfNums d) W
          have g1 : ∀ k, (convert 45 9 (.slice a1 d.length c1)).run Try.prog (World.drewN _ k) = .ok (.string (strOfNums d)) (World.drewN _ k) := fun k => run_str (x1.keeps ((Keeps.refl Nil _).drewN k) (fun _ _ h => h))
          have g2 : ∀ k, (convert 45 9 (.slice a2 d.length c2)).run Try.prog (World.drewN _ k) = .ok (.string (strOfNums d)) (World.drewN _ k) := fun k => run_str (z1.keeps ((Keeps.refl Nil _).drewN k) (fun _ _ h => h))
          obtain ⟨s, hs⟩ : ∃ s, strOfNums d = s := ⟨_, rfl⟩
          rw [hs] at hne g1 g2
          obtain ⟨nd, hnd⟩ : ∃ nd, d.length = nd := ⟨_, rfl⟩
          rw [hnd] at x0 z0 g1 g2
          clear hK kk v1 v2 hd hq1 hs hnd x1 z1
          go_wp2_with fail
          go_quiet (fail)
          go_wp2_with fail
          go_roundw
          case rel => exact ⟨q2 + 1, by omega, by go_num, hK2.out.drewN _⟩
          case measure => simp [intOf]; omega
        · clear hK kk v1 v2
          go_wp2_with fail
          go_ret
          exact ⟨rfl, hA1'.out.trans hK2.out⟩
end Go.Proofs.Ytdgcbjkopmlegaa
