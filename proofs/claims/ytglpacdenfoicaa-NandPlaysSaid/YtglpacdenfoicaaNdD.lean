/- nand: has a fault come? -/
import Derived.Test.YtglpacdenfoicaaNdC
namespace Go.Proofs.Ytglpacdenfoicaa
open Go.RowKit

theorem hits_cases (f : Ft) (op kind die n : Int) :
    (f.hits op kind die n = false ∧ (f.kind == kind) = false) ∨
    (f.hits op kind die n = false ∧ (f.kind == kind) = true ∧ decide (f.time ≤ op) = false ∧ (kind == 6) = false) ∨
    (f.hits op kind die n = false ∧ (f.kind == kind) = true ∧ (decide (f.time ≤ op) = true ∨ decide (f.time ≤ op) = false ∧ (kind == 6) = true) ∧ (f.die == die) = false) ∨
    (f.hits op kind die n = true ∧ (f.kind == kind) = true ∧ (decide (f.time ≤ op) = true ∨ decide (f.time ≤ op) = false ∧ (kind == 6) = true) ∧ (f.die == die) = true ∧ (kind == 4) = true) ∨
    (f.hits op kind die n = (f.block == n) ∧ (f.kind == kind) = true ∧ (decide (f.time ≤ op) = true ∨ decide (f.time ≤ op) = false ∧ (kind == 6) = true) ∧ (f.die == die) = true ∧ (kind == 4) = false) := by
  unfold Ft.hits
  cases f.kind == kind <;> cases decide (f.time ≤ op) <;> cases kind == 6 <;> cases f.die == die <;> cases kind == 4 <;> simp

set_option maxHeartbeats 2000000 in
set_option maxRecDepth 100000 in
theorem struck71 (x : Fx) {w : World} {gk go gd gn : Nat} {kind op die n : Int} (ck : w.cell? ⟨gk, 0, none⟩ = some (.int .i64 kind)) (co : w.cell? ⟨go, 0, none⟩ = some (.int .i64 op)) (cd : w.cell? ⟨gd, 0, none⟩ = some (.int .i64 die)) (cn : w.cell? ⟨gn, 0, none⟩ = some (.int .i64 n)) :
    Calls Try.prog 71 #[.agg #[.int .i64 x.f.kind, .int .i64 x.f.time, .int .i64 x.f.die, .int .i64 x.f.block, .int .i64 x.f.page, .int .i64 x.f.times, .int .i64 x.f.part, .slice x.a x.f.bits.length x.c, .int .i64 (x.f.left : Nat)], .pointer (some ⟨gk, 0, none⟩), .pointer (some ⟨go, 0, none⟩), .pointer (some ⟨gd, 0, none⟩), .pointer (some ⟨gn, 0, none⟩)] w
      fun e w' => e = .returned (.bool (x.f.hits op kind die n)) ∧ Keeps Nil w w' := by
  have hk := Lib.hid ((Keeps.refl Nil w).alloc (.cells #[.int .i64 x.f.kind, .int .i64 x.f.time, .int .i64 x.f.die, .int .i64 x.f.block, .int .i64 x.f.page, .int .i64 x.f.times, .int .i64 x.f.part, .slice x.a x.f.bits.length x.c, .int .i64 (x.f.left : Nat)] 78))
  have ck' := hk.out.cell ck (fun h => h)
  have co' := hk.out.cell co (fun h => h)
  have cd' := hk.out.cell cd (fun h => h)
  have cn' := hk.out.cell cn (fun h => h)
  clear ck co cd cn
  rcases hits_cases x.f op kind die n with ⟨h, h1⟩ | ⟨h, h1, h2, h3⟩ | ⟨h, h1, h2 | ⟨h2, h3⟩, h4⟩ | ⟨h, h1, h2 | ⟨h2, h3⟩, h4, h5⟩ | ⟨h, h1, h2 | ⟨h2, h3⟩, h4, h5⟩
  all_goals
    rw [h]
    clear h
    go_enter Try.func71, Try.ntmps71
    go_wp2_with fail
    go_ret
    exact ⟨rfl, hk.out⟩
theorem cuts_cases (f : Ft) (op : Int) : (f.cuts op = false ∧ (f.kind == 5) = false) ∨ (f.cuts op = (f.time == op) ∧ (f.kind == 5) = true) := by
  unfold Ft.cuts
  cases f.kind == 5 <;> simp
set_option maxHeartbeats 2000000 in
set_option maxRecDepth 100000 in
theorem cuts58 (x : Fx) {w : World} {go : Nat} {op : Int} (co : w.cell? ⟨go, 0, none⟩ = some (.int .i64 op)) :
    Calls Try.prog 58 #[.agg #[.int .i64 x.f.kind, .int .i64 x.f.time, .int .i64 x.f.die, .int .i64 x.f.block, .int .i64 x.f.page, .int .i64 x.f.times, .int .i64 x.f.part, .slice x.a x.f.bits.length x.c, .int .i64 (x.f.left : Nat)], .pointer (some ⟨go, 0, none⟩)] w
      fun e w' => e = .returned (.bool (x.f.cuts op)) ∧ Keeps Nil w w' := by
  have hk := Lib.hid ((Keeps.refl Nil w).alloc (.cells #[.int .i64 x.f.kind, .int .i64 x.f.time, .int .i64 x.f.die, .int .i64 x.f.block, .int .i64 x.f.page, .int .i64 x.f.times, .int .i64 x.f.part, .slice x.a x.f.bits.length x.c, .int .i64 (x.f.left : Nat)] 78))
  have co' := hk.out.cell co (fun h => h)
  clear co
  rcases cuts_cases x.f op with ⟨h, h1⟩ | ⟨h, h1⟩
  all_goals
    rw [h]
    clear h
    go_enter Try.func58, Try.ntmps58
    go_wp2_with fail
    go_ret
    exact ⟨rfl, hk.out⟩

set_option maxHeartbeats 2000000 in
set_option maxRecDepth 100000 in
/-- slices.IndexFunc over faults, for whatever test -/
theorem index57 {fp : FuncId} {caps : Array Value} {p : Ft → Bool} {w : World} {fa : Option Addr} {fc : Nat} {L : List Fx} (hen : ∀ args w, (callFunc fp args).run Try.prog w = .ok (.enter fp args) w) (hL : RecRow encX 9 w 78 fa fc L) (hm : L.length ≤ 100000)
    (hP : ∀ x ∈ L, ∀ W, Keeps Nil w W → Calls Try.prog fp (#[.agg #[.int .i64 x.f.kind, .int .i64 x.f.time, .int .i64 x.f.die, .int .i64 x.f.block, .int .i64 x.f.page, .int .i64 x.f.times, .int .i64 x.f.part, .slice x.a x.f.bits.length x.c, .int .i64 (x.f.left : Nat)]] ++ caps) W
      fun e w' => e = .returned (.bool (p x.f)) ∧ Keeps Nil W w') :
    Calls Try.prog 57 #[.slice fa L.length fc, .func (.func fp) #[] caps] w fun e w' => e = .returned (.int .i64 (firstF p (L.map (·.f)) 0)) ∧ Keeps Nil w w' := by
  have hL' := Lib.hid hL
  have hP' := Lib.hid hP
  clear hL hP
  go_enter Try.func57, Try.ntmps57
  go_wp2_with fail
  go_loopw [8] (fun i wr => ∃ k : Nat, k ≤ L.length ∧ i = .int .i64 k ∧ Keeps Nil w wr ∧ Hid (firstF p (L.map (·.f)) 0 = firstF p ((L.drop k).map (·.f)) k)) (fun i _ => L.length - (intOf i).toNat)
  case atStart => exact ⟨0, Nat.zero_le _, rfl, Keeps.refl _ _, rfl⟩
  case round =>
    obtain ⟨k, hk, rfl, hkp, hrel⟩ := hrel
    by_cases hlt : k < L.length
    · obtain ⟨x, hx⟩ : ∃ x, L[k]? = some x := ⟨L[k], List.getElem?_eq_getElem hlt⟩
      obtain ⟨g, rfl, _, _, hc⟩ := (hL'.out.keeps hkp (fun _ _ h => h)).cell encX_len hx
      have c0 := hc 0 _ (by decide) rfl
      rw [Nat.add_zero] at c0
      have c1 := hc 1 _ (by decide) rfl
      have c2 := hc 2 _ (by decide) rfl
      have c3 := hc 3 _ (by decide) rfl
      have c4 := hc 4 _ (by decide) rfl
      have c5 := hc 5 _ (by decide) rfl
      have c6 := hc 6 _ (by decide) rfl
      have c7 := hc 7 _ (by decide) rfl
      have c8 := hc 8 _ (by decide) rfl
      have hC := Lib.hid (hP'.out x (List.mem_of_getElem? hx) wr hkp)
      have hd : (L.drop k).map (·.f) = x.f :: ((L.drop (k + 1)).map (·.f)) := by
        rw [List.drop_eq_getElem_cons hlt, List.map_cons]
        rw [List.getElem?_eq_getElem hlt] at hx
        cases hx; rfl
      have hrel' := Lib.hid (hrel.out.trans (by rw [hd]))
      have hkp' := Lib.hid hkp
      obtain ⟨b, hb⟩ : ∃ b, p x.f = b := ⟨_, rfl⟩
      rw [hb] at hC
      have hb' := Lib.hid hb
      clear hc hkp hd hrel hx hb
      cases b with
      | false =>
        go_wp2_with fail
        refine (hC.out).mono ?_
        rintro e w1 ⟨rfl, k1⟩
        have k1' := Lib.hid k1
        clear k1
        go_wp2_with fail
        go_roundw
        case rel => exact ⟨k + 1, by omega, by go_num, hkp'.out.trans k1'.out, Lib.hid (by rw [hrel'.out, firstF, hb'.out]; rfl)⟩
        case measure => simp [intOf]; omega
      | true =>
        go_wp2_with fail
        refine (hC.out).mono ?_
        rintro e w1 ⟨rfl, k1⟩
        have k1' := Lib.hid k1
        clear k1
        go_wp2_with fail
        go_ret
        rw [hrel'.out, firstF, hb'.out]
        exact ⟨rfl, hkp'.out.trans k1'.out⟩
    · have hkl : k = L.length := by omega
      have hend : firstF p ((L.drop k).map (·.f)) k = -1 := by rw [List.drop_eq_nil_of_le (by omega)]; rfl
      have hrel' := Lib.hid (hrel.out.trans hend)
      have hkp' := Lib.hid hkp
      clear hkp hrel hend hkl
      go_wp2_with fail
      go_ret
      rw [hrel'.out]
      exact ⟨rfl, hkp'.out⟩
end Go.Proofs.Ytglpacdenfoicaa
