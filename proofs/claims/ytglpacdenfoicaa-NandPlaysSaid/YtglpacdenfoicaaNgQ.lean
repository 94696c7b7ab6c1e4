/- NandPlays: the walk -/
import Derived.Test.YtglpacdenfoicaaNgP
import Derived.Test.YtglpacdenfoicaaNgL
import Derived.Test.YtglpacdenfoicaaNgJ
import Derived.Test.YtglpacdenfoicaaNeJ
namespace Go.Proofs.Ytglpacdenfoicaa
open Go.ChangeShapes Go.WideShapes Go.ChangeAt Go.RowKit Go.Deep

theorem FtsAt.nil {w w' : World} {fa : Option Addr} {LA : List Fx} (h : FtsAt w fa LA) (hk : Keeps Nil w w') : FtsAt w' fa LA :=
  ⟨fun k x hx => by
    obtain ⟨g, off, h1, h2⟩ := h.cell k x hx
    exact ⟨g, off, h1, fun j v hj => hk.cell (h2 j v hj) (fun h => h)⟩, fun x hx => ⟨(h.bits x hx).1.keeps hk (fun _ _ h => h), (h.bits x hx).2⟩, h.wf⟩
theorem OpOk.far {w w' : World} {o : OpN} (h : OpOk w o) (hk : Keeps Nil w w') : OpOk w' o := ⟨h.kind, h.die, h.block, h.page, h.nums.keeps hk (fun _ _ h => h), h.nil, h.cap, h.len, h.byte⟩
theorem cellsOf31 : Try.prog.cellsOf 31 = 4 := by kernel_rfl
theorem arg_shape {H : Type} {enc : TypeId × Value → H} {w : World} {cs : Array Value} (h : Trd enc Try.prog w 31 (Value.agg cs).cells.toList) (hcs : cs.size = 4) :
    ∃ d b p n : Int, cs = #[.int .i64 d, .int .i64 b, .int .i64 p, .int .i64 n] := by
  have h' : Trd enc Try.prog w 31 cs.toList := h
  obtain ⟨x0, e0, w0⟩ := (h'.fld Try.underlying31 0 3 0 1 rfl cellsOf3).int Try.underlying3
  obtain ⟨x1, e1, w1⟩ := (h'.fld Try.underlying31 1 3 1 1 rfl cellsOf3).int Try.underlying3
  obtain ⟨x2, e2, w2⟩ := (h'.fld Try.underlying31 2 3 2 1 rfl cellsOf3).int Try.underlying3
  obtain ⟨x3, e3, w3⟩ := (h'.fld Try.underlying31 3 3 3 1 rfl cellsOf3).int Try.underlying3
  have g0 := one_of_take e0
  have g1 := one_of_take e1
  have g2 := one_of_take e2
  have g3 := one_of_take e3
  refine ⟨x0, x1, x2, x3, ?_⟩
  apply Array.ext'
  apply List.ext_getElem?
  intro i
  match i with
  | 0 => rw [g0]; rfl
  | 1 => rw [g1]; rfl
  | 2 => rw [g2]; rfl
  | 3 => rw [g3]; rfl
  | i + 4 => rw [List.getElem?_eq_none (by simp; omega), List.getElem?_eq_none (by simp)]
set_option maxHeartbeats 1000000 in
theorem new22_fits {w : World} {d b p n : Int} {v : Value} (hf : ¬ FitsI d b p n) :
    Calls Try.prog 22 #[.agg #[.int .i64 d, .int .i64 b, .int .i64 p, .int .i64 n], v] w fun e w' => e = .returned (.tuple #[.pointer none, .int .i64 1]) ∧ Keeps Nil w w' := by
  have hfit := Lib.hid (fits40_f hf)
  have k0 := Lib.hid ((Keeps.refl Nil w).alloc (.cells #[.int .i64 d, .int .i64 b, .int .i64 p, .int .i64 n] 31))
  have s0 := cell_of_heap (heap_alloc_new w (.cells #[.int .i64 d, .int .i64 b, .int .i64 p, .int .i64 n] 31))
  have c0 := s0 0
  have c1 := s0 1
  have c2 := s0 2
  have c3 := s0 3
  simp only [List.getElem?_toArray, List.getElem?_cons_zero, List.getElem?_cons_succ] at c0 c1 c2 c3
  clear hf s0
  go_enter Try.func22, Try.ntmps22
  go_wp2_with fail
  refine (hfit.out _).mono ?_
  rintro e w1 ⟨rfl, k1⟩
  have k1' := Lib.hid (k0.out.trans k1)
  clear k1
  go_wp2_with fail
  go_ret2
  exact ⟨rfl, k1'.out⟩
set_option maxHeartbeats 1000000 in
theorem new22_many {w : World} {d b p n : Int} {fa : Option Addr} {m fc : Nat} (hf : FitsI d b p n) (hm : 2000 < m) :
    Calls Try.prog 22 #[.agg #[.int .i64 d, .int .i64 b, .int .i64 p, .int .i64 n], .slice fa m fc] w fun e w' => e = .returned (.tuple #[.pointer none, .int .i64 1]) ∧ Keeps Nil w w' := by
  have hfit := Lib.hid (fits40_t hf)
  have k0 := Lib.hid ((Keeps.refl Nil w).alloc (.cells #[.int .i64 d, .int .i64 b, .int .i64 p, .int .i64 n] 31))
  have s0 := cell_of_heap (heap_alloc_new w (.cells #[.int .i64 d, .int .i64 b, .int .i64 p, .int .i64 n] 31))
  have c0 := s0 0
  have c1 := s0 1
  have c2 := s0 2
  have c3 := s0 3
  simp only [List.getElem?_toArray, List.getElem?_cons_zero, List.getElem?_cons_succ] at c0 c1 c2 c3
  have hmz : (2000 : Int) < (m : Int) := by omega
  clear hf s0 hm
  go_enter Try.func22, Try.ntmps22
  go_wp2_with fail
  refine (hfit.out _).mono ?_
  rintro e w1 ⟨rfl, k1⟩
  have k1' := Lib.hid (k0.out.trans k1)
  clear k1
  go_wp2_with fail
  go_ret2
  exact ⟨rfl, k1'.out⟩
abbrev shV (d b p n : Int) : Value := .agg #[.int .i64 d, .int .i64 b, .int .i64 p, .int .i64 n]
set_option maxHeartbeats 8000000 in
set_option maxRecDepth 100000 in
/-- both refuse -/
theorem plays_bad (d b p n : Int) (fa a : Option Addr) (m0 fc m sc : Nat) (w : World) (hN : ∀ w', Keeps Nil w w' → Calls Try.prog 12 #[.agg #[.int .i64 d, .int .i64 b, .int .i64 p, .int .i64 n], .slice fa m0 fc] w' fun e w'' => e = .returned (.tuple #[.pointer none, .int .i64 1]) ∧ Keeps Nil w' w'')
    (hR : ∀ w', Keeps Nil w w' → Calls Try.prog 22 #[.agg #[.int .i64 d, .int .i64 b, .int .i64 p, .int .i64 n], .slice fa m0 fc] w' fun e w'' => e = .returned (.tuple #[.pointer none, .int .i64 1]) ∧ Keeps Nil w' w'') :
    Calls Try.prog 9 #[.agg #[.int .i64 d, .int .i64 b, .int .i64 p, .int .i64 n], .slice fa m0 fc, .slice a m sc] w fun e w' => e = .returned (.bool true) ∧ Keeps Nil w w' := by
  have hN' := Lib.hid hN
  have hR' := Lib.hid hR
  have k0 := (Keeps.refl Nil w).alloc (.cells #[.int .i64 d, .int .i64 b, .int .i64 p, .int .i64 n] 31)
  have hs := heap_alloc_new w (.cells #[.int .i64 d, .int .i64 b, .int .i64 p, .int .i64 n] 31)
  obtain ⟨wa, hwa⟩ : ∃ wa, w.alloc (.cells #[.int .i64 d, .int .i64 b, .int .i64 p, .int .i64 n] 31) = wa := ⟨_, rfl⟩
  rw [hwa] at k0 hs
  have hs' := Lib.hid hs
  have k0' := Lib.hid k0
  have hSh := Lib.hid (show ∀ W, Keeps Nil wa W → W.cell? ⟨w.heap.size, 0, none⟩ = some (.int .i64 d) ∧ W.cell? ⟨w.heap.size, 1, none⟩ = some (.int .i64 b) ∧ W.cell? ⟨w.heap.size, 2, none⟩ = some (.int .i64 p) ∧ W.cell? ⟨w.heap.size, 3, none⟩ = some (.int .i64 n) from
    fun W hW => ⟨cell_of_heap (hW.heap hs'.out (fun h => h)) 0, cell_of_heap (hW.heap hs'.out (fun h => h)) 1, cell_of_heap (hW.heap hs'.out (fun h => h)) 2, cell_of_heap (hW.heap hs'.out (fun h => h)) 3⟩)
  clear hN hR hs k0
  go_enter Try.func9, Try.ntmps9
  go_wp2_with fail
  refine (awake10 wa).mono ?_
  rintro e w1 ⟨rfl, k1⟩
  have k1' := Lib.hid k1
  obtain ⟨s0, s1, s2, s3⟩ := hSh.out w1 k1
  clear k1
  go_wp2_with fail
  refine (hN'.out w1 (k0'.out.trans k1'.out)).mono ?_
  rintro e w2 ⟨rfl, k2⟩
  have k2' := Lib.hid (k1'.out.trans k2)
  clear k2 s0 s1 s2 s3
  obtain ⟨s0, s1, s2, s3⟩ := hSh.out w2 k2'.out
  go_wp2_with fail
  refine (hR'.out w2 (k0'.out.trans k2'.out)).mono ?_
  rintro e w3 ⟨rfl, k3⟩
  have k3' := Lib.hid (k2'.out.trans k3)
  clear k3 s0 s1 s2 s3
  go_wp2_with fail
  go_ret
  exact ⟨rfl, k0'.out.trans k3'.out⟩
set_option maxHeartbeats 16000000 in
set_option maxRecDepth 100000 in
theorem plays_ok (S : Sh) (fa a : Option Addr) (fc m sc : Nat) (LA : List Fx) (L : List OpN) (w : World) (hS : S.Ok) (hf : FitsI S.dies S.blocks S.pages S.bytes) (hF : FtsAt w fa LA) (hF2 : LA.length ≤ 2000) (hall : (LA.map (·.f)).all (·.may S) = true) (hL : OpsAt w a L) (hm : L.length = m) (_ : m ≤ 140737488351232) :
    Calls Try.prog 9 #[.agg #[.int .i64 (S.dies : Nat), .int .i64 (S.blocks : Nat), .int .i64 (S.pages : Nat), .int .i64 (S.bytes : Nat)], .slice fa LA.length fc, .slice a m sc] w fun e w' => e = .returned (.bool true) ∧ Keeps Nil w w' := by
  have hL' := Lib.hid hL
  have hF' := Lib.hid hF
  have hall' := Lib.hid hall
  have hS' := Lib.hid hS
  have hf' := Lib.hid hf
  have hF2' := Lib.hid hF2
  have k0 := (Keeps.refl Nil w).alloc (.cells (shCells S) 31)
  have hs := heap_alloc_new w (.cells (shCells S) 31)
  obtain ⟨wa, hwa⟩ : ∃ wa, w.alloc (.cells (shCells S) 31) = wa := ⟨_, rfl⟩
  rw [hwa] at k0 hs
  have hs' := Lib.hid hs
  have k0' := Lib.hid k0
  have hSh := Lib.hid (show ∀ W, Keeps Nil wa W → W.cell? ⟨w.heap.size, 0, none⟩ = some (.int .i64 (S.dies : Nat)) ∧ W.cell? ⟨w.heap.size, 1, none⟩ = some (.int .i64 (S.blocks : Nat)) ∧ W.cell? ⟨w.heap.size, 2, none⟩ = some (.int .i64 (S.pages : Nat)) ∧ W.cell? ⟨w.heap.size, 3, none⟩ = some (.int .i64 (S.bytes : Nat)) from
    fun W hW => ⟨cell_of_heap (hW.heap hs'.out (fun h => h)) 0, cell_of_heap (hW.heap hs'.out (fun h => h)) 1, cell_of_heap (hW.heap hs'.out (fun h => h)) 2, cell_of_heap (hW.heap hs'.out (fun h => h)) 3⟩)
  have hwa' : w.alloc (.cells #[.int .i64 (S.dies : Nat), .int .i64 (S.blocks : Nat), .int .i64 (S.pages : Nat), .int .i64 (S.bytes : Nat)] 31) = wa := hwa
  clear hL hF hall hS hf hs k0 hwa
  go_enter Try.func9, Try.ntmps9
  go_wp2_with fail
  refine (awake10 wa).mono ?_
  rintro e w1 ⟨rfl, k1⟩
  have k1' := Lib.hid k1
  obtain ⟨s0, s1, s2, s3⟩ := hSh.out w1 k1
  have hNw := Lib.hid (newI_ok (S := S) (fc := fc) (w0 := w) (k0'.out.trans k1) hf'.out (hF'.out.nil (k0'.out.trans k1)) hF2'.out hall'.out)
  clear k1 hwa'
  go_wp2_with fail
  refine (hNw.out).mono ?_
  rintro e w2 ⟨ab, O, rfl, hO, k2, -⟩
  have k2' := Lib.hid (k1'.out.trans k2)
  have hO' := Lib.hid hO
  clear k2 s0 s1 s2 s3 hNw hO
  obtain ⟨s0, s1, s2, s3⟩ := hSh.out w2 k2'.out
  have hRw := Lib.hid (new22 (fc := fc) hS'.out hf'.out (hF'.out.nil (k0'.out.trans k2'.out)) hF2'.out)
  go_wp2_with fail
  refine (hRw.out).mono ?_
  rintro e w3 hh
  obtain ⟨P, O', rfl, hPL, hQ, k3, hnew⟩ := hh.1 hall'.out
  have k3' := Lib.hid (k2'.out.trans k3)
  have hT0 := Lib.hid (show TwoA w w3 ab (Nd.new S (LA.map (·.f))) 0 O P O' from ⟨hO'.out.nil k3, ⟨hQ, hO'.out.good, k0'.out.trans k3'.out, fun k hk => Nat.le_trans hO'.out.keep.size (hnew k hk)⟩, fun k h1 h2 => by
    have := hO'.out.lt h1
    have := hnew k h2
    omega, fun x hx h0 g hg => by
      rw [hPL] at hx
      exact NumsAt.lt (hF'.out.bits x hx).1 h0 g hg⟩)
  clear s0 s1 s2 s3 hRw hh k3 hQ hnew hPL
  obtain ⟨s0, s1, s2, s3⟩ := hSh.out w3 k3'.out
  by_cases hbig : 512 < (S.bytes : Int)
  · go_wp2_with fail
    go_ret
    exact ⟨rfl, k0'.out.trans k3'.out⟩
  · go_wp2_with fail
    clear s0 s1 s2 s3
    go_loopw [12] (fun i wr => ∃ k : Nat, k ≤ 120 ∧ k ≤ m ∧ i = .int .i64 k ∧ Hid (∃ A O O', TwoA w wr ab A k O P O')) (fun i _ => m - (intOf i).toNat)
    case atStart => exact ⟨0, by decide, Nat.zero_le _, rfl, Lib.hid ⟨_, _, _, hT0.out⟩⟩
    case round =>
      clear hT0
      obtain ⟨k, hk, hkm, rfl, hrel⟩ := hrel
      obtain ⟨A, Oa, Or, hT⟩ := hrel.out
      have hkp := hT.a.keep
      have hT' := Lib.hid hT
      clear hT
      by_cases hlt : k < m
      · by_cases hl2 : k < 120
        · obtain ⟨o, _, hok, g, off, rfl, c0, c1, c2, c3, c4⟩ := hL'.out.cells (k := k) (by omega)
          have c0 := hkp.cell c0 (fun h => h)
          have c1 := hkp.cell c1 (fun h => h)
          have c2 := hkp.cell c2 (fun h => h)
          have c3 := hkp.cell c3 (fun h => h)
          have c4 := hkp.cell c4 (fun h => h)
          have hOne := Lib.hid (one23 hT'.out (by omega) (hok.far hkp))
          clear hkp hok hrel
          go_wp2_with fail
          refine (hOne.out).mono ?_
          rintro e w5 ⟨rfl, A2, O2, O3, hT2⟩
          have hN := Lib.hid (show ∃ A O O', TwoA w w5 ab A (k + 1) O P O' from ⟨_, _, _, hT2⟩)
          clear hT2 hOne c0 c1 c2 c3 c4
          go_wp2_with fail
          go_roundw
          case rel => exact ⟨k + 1, by omega, by omega, by go_num, hN⟩
          case measure => simp [intOf]; omega
        · have hAl := Lib.hid (alike24 hT'.out.a hT'.out.r)
          clear hrel
          go_wp2_with fail
          refine (hAl.out).mono ?_
          rintro e w5 ⟨rfl, k5⟩
          have k5' := Lib.hid (hkp.trans k5)
          clear k5
          go_wp2_with fail
          go_ret
          exact ⟨rfl, k5'.out⟩
      · have hAl := Lib.hid (alike24 hT'.out.a hT'.out.r)
        clear hrel
        go_wp2_with fail
        refine (hAl.out).mono ?_
        rintro e w5 ⟨rfl, k5⟩
        have k5' := Lib.hid (hkp.trans k5)
        clear k5
        go_wp2_with fail
        go_ret
        exact ⟨rfl, k5'.out⟩
/-- whatever the shape and the faults -/
theorem plays9 (d b p n : Int) (fa a : Option Addr) (m0 fc m sc : Nat) (LA : List Fx) (L : List OpN) (w : World) (hF : FtsAt w fa LA) (hF0 : LA.length = m0) (hL : OpsAt w a L) (hm : L.length = m) (hm7 : m ≤ 140737488351232) :
    Calls Try.prog 9 #[.agg #[.int .i64 d, .int .i64 b, .int .i64 p, .int .i64 n], .slice fa m0 fc, .slice a m sc] w fun e w' => e = .returned (.bool true) ∧ Keeps Nil w w' := by
  by_cases hf : FitsI d b p n
  · by_cases hmn : m0 ≤ 2000
    · obtain ⟨D, rfl⟩ := Int.eq_ofNat_of_zero_le (show 0 ≤ d by have := hf.hd; omega)
      obtain ⟨B, rfl⟩ := Int.eq_ofNat_of_zero_le (show 0 ≤ b by have := hf.hb; omega)
      obtain ⟨Pg, rfl⟩ := Int.eq_ofNat_of_zero_le (show 0 ≤ p by have := hf.hp; omega)
      obtain ⟨N, rfl⟩ := Int.eq_ofNat_of_zero_le (show 0 ≤ n by have := hf.hn; omega)
      subst hF0
      cases hall : (LA.map (·.f)).all (·.may ⟨D, B, Pg, N⟩) with
      | true => exact plays_ok ⟨D, B, Pg, N⟩ fa a fc m sc LA L w (FitsI.ok hf) hf hF hmn hall hL hm hm7
      | false =>
        exact plays_bad _ _ _ _ fa a _ fc m sc w (fun w' hk => newI_bad (S := ⟨D, B, Pg, N⟩) hf (hF.nil hk) hmn hall)
          (fun w' hk => (new22 (S := ⟨D, B, Pg, N⟩) (FitsI.ok hf) hf (hF.nil hk) hmn).mono fun _ _ h => h.2 hall)
    · exact plays_bad _ _ _ _ fa a _ fc m sc w (fun w' _ => new12_many hf (by omega)) (fun w' _ => new22_many hf (by omega))
  · exact plays_bad _ _ _ _ fa a _ fc m sc w (fun w' _ => new12_fits hf) (fun w' _ => new22_fits hf)
end Go.Proofs.Ytglpacdenfoicaa
