/- Flush -/
import Derived.Test.YtnickcjkipemmaaDfO
namespace Go.Proofs.Ytnickcjkipemmaa
open Go.RowKit

variable {w w' : World} {db pb cb : Nat} {keys most : Int} {D D' : Df} {O OL OP T : Nat → Prop}
theorem store_lt {D : Df} {b : Nat} (h : D.P.Lt b) (n : Int) : (D.store n).2.P.Lt (b + 2) := by
  unfold Df.store
  split
  · exact h.loaded.mono (Nat.le_succ _)
  · split
    · exact h.loaded.storeBad
    · exact h.loaded.stored n _
structure FlushIn (w wr : World) (db pb : Nat) (keys most : Int) (per : Nat) (L0 : List Ent) (R : Int × Df) (b i : Nat) (O O' : Nat → Prop) (Di : Df) : Prop where
  df : DfAt wr db pb keys most Di O'
  ok : Di.Ok keys most
  lt : Di.P.Lt (b + 2 * i)
  per : Di.P.per = per
  keep : Keeps O w wr
  grow : Grow O O' w wr
  spec : Df.flush (L0.drop i) Di = R
theorem flush_skip {L : List Ent} {j : Nat} {D : Df} (h : j < L.length) (hd : (lent (L.getD j ent0).key D.L).dirty = false) : Df.flush (L.drop j) D = Df.flush (L.drop (j + 1)) D := by
  rw [List.drop_eq_getElem_cons h, Df.flush]
  rw [List.getD_eq_getElem?_getD, List.getElem?_eq_getElem h, Option.getD_some] at hd
  rw [hd, if_neg (by decide)]
theorem flush_take {L : List Ent} {j : Nat} {D : Df} (h : j < L.length) (hd : (lent (L.getD j ent0).key D.L).dirty = true) (h0 : (D.store ((L.getD j ent0).key / (D.P.per : Int))).1 = 0) :
    Df.flush (L.drop j) D = Df.flush (L.drop (j + 1)) (D.store ((L.getD j ent0).key / (D.P.per : Int))).2 := by
  rw [List.drop_eq_getElem_cons h, Df.flush]
  rw [List.getD_eq_getElem?_getD, List.getElem?_eq_getElem h, Option.getD_some] at hd h0 ⊢
  rw [hd, if_pos rfl, if_pos h0]
theorem flush_stop {L : List Ent} {j : Nat} {D : Df} (h : j < L.length) (hd : (lent (L.getD j ent0).key D.L).dirty = true) (h0 : ¬ (D.store ((L.getD j ent0).key / (D.P.per : Int))).1 = 0) :
    Df.flush (L.drop j) D = D.store ((L.getD j ent0).key / (D.P.per : Int)) := by
  rw [List.drop_eq_getElem_cons h, Df.flush]
  rw [List.getD_eq_getElem?_getD, List.getElem?_eq_getElem h, Option.getD_some] at hd h0 ⊢
  rw [hd, if_pos rfl, if_neg h0]
set_option maxHeartbeats 8000000 in
set_option maxRecDepth 100000 in
theorem flush55 {b : Nat} (h : DfAt w db pb keys most D O) (hok : D.Ok keys most) {mv : Nat} (hm : w.cell? ⟨mv, 0, none⟩ = some (.pointer (some ⟨db, 0, none⟩))) (hmo : ¬ O mv) (hb : D.P.Lt b) (hb2 : b ≤ 10000000) :
    Calls Try.prog 55 #[.pointer (some ⟨mv, 0, none⟩)] w (DfOut w db pb keys most O (resE (Df.flush D.L D).1) (Df.flush D.L D).2) := by
  obtain ⟨hln, hm1, hm2, hy1, hy2, hp1, hp2⟩ := h.lenB
  have hL0 : D.L.length ≤ 1000 := by omega
  have hkey := Lib.hid hok.key
  obtain ⟨R, hR⟩ : ∃ R, Df.flush D.L D = R := ⟨_, rfl⟩
  rw [hR]
  have hI0 := Lib.hid (show FlushIn w w db pb keys most D.P.per D.L R b 0 O O D from ⟨h, hok, hb.mono (by omega), rfl, Keeps.refl _ _, fun k hk => .inl hk, by rw [List.drop_zero, hR]⟩)
  obtain ⟨cb, c4, hA⟩ : ∃ cb, w.cell? ⟨db, 4, none⟩ = some (.pointer (some ⟨cb, 0, none⟩)) ∧ Calls Try.prog 19 #[.pointer (some ⟨cb, 0, none⟩)] w (AllOut w D.L) := by
    obtain ⟨cb, OL, OP, h, _⟩ := h
    exact ⟨cb, cell_of_heap h.blk 4, allX h.lru (by omega)⟩
  have hA' := Lib.hid hA
  have hOlt := Lib.hid (fun k (hk : O k) => h.lt hk)
  have hmo' := Lib.hid hmo
  have hm' := Lib.hid hm
  obtain ⟨L0, hL0e⟩ : ∃ L, D.L = L := ⟨_, rfl⟩
  obtain ⟨per, hpe⟩ : ∃ p, D.P.per = p := ⟨_, rfl⟩
  rw [hL0e] at hA' hL0 hkey hI0
  rw [hpe] at hI0 hp1 hp2
  have hp0 : ¬ per = 0 := by omega
  clear h hok hmo hb hR hA hln hL0e hpe
  go_enter Try.func55, Try.ntmps55
  go_wp2_with fail
  refine (hA'.out).mono ?_
  rintro e w2 ⟨v, rfl, a, cap, rfl, hrow, hk2, hge⟩
  have hrow' := Lib.hid hrow
  have hge' := Lib.hid hge
  have hk2' := Lib.hid hk2
  have hI2 := Lib.hid (show FlushIn w2 w2 db pb keys most per L0 R b 0 O O D from ⟨hI0.out.df.keeps hk2 (fun _ _ h => h), hI0.out.ok, hI0.out.lt, hI0.out.per, Keeps.refl _ _, fun k hk => .inl hk, hI0.out.spec⟩)
  clear hrow hk2 hge hA' c4
  go_wp2_with fail
  go_loopw [9, 2] (fun i _ wr => ∃ (j : Nat) (O' : Nat → Prop) (Di : Df), j ≤ L0.length ∧ i = .int .i64 j ∧ FlushIn w2 wr db pb keys most per L0 R b j O O' Di) (fun i _ _ => L0.length - (intOf i).toNat)
  case atStart => exact ⟨0, O, D, Nat.zero_le _, rfl, hI2.out⟩
  case round =>
    obtain ⟨j, O2, Di, hj, rfl, hI⟩ := hrel
    by_cases hlt : j < L0.length
    · have hrn : ∀ g, blk a = some g → ¬ O g := fun g hg ho => by have := hge'.out g hg; have := hOlt.out g ho; omega
      obtain ⟨g, rfl, hent⟩ := EntRow.at' (RowAt.keeps hrow'.out hI.keep hrn) hlt
      have hfs := flush_skip (D := Di) hlt
      have hft := flush_take (D := Di) hlt
      have hfp := flush_stop (D := Di) hlt
      have hxm : L0.getD j ent0 ∈ L0 := by rw [List.getD_eq_getElem?_getD, List.getElem?_eq_getElem hlt]; exact List.getElem_mem hlt
      obtain ⟨x, hx⟩ : ∃ x, L0.getD j ent0 = x := ⟨_, rfl⟩
      rw [hx] at hent hfs hft hfp hxm
      clear hx
      have hxk := hkey.out x hxm
      rw [hI.spec] at hfs hft hfp
      have c0 : wr.cell? ⟨g, j * 3, none⟩ = some (.int .i64 x.key) := hent.key
      have c1 : wr.cell? ⟨g, j * 3 + 1, none⟩ = some (.int .u64 x.val) := hent.val
      have c2 : wr.cell? ⟨g, j * 3 + 2, none⟩ = some (.bool x.dirty) := hent.dirty
      obtain ⟨W1, hW1⟩ : ∃ W1, wr.alloc (.cells #[.int .i64 x.key, .int .u64 x.val, .bool x.dirty] 32) = W1 := ⟨_, rfl⟩
      have s1 : Keeps Nil wr W1 := by rw [← hW1]; exact (Keeps.refl Nil wr).alloc _
      have l0 : W1.cell? ⟨wr.heap.size, 0, none⟩ = some (.int .i64 x.key) := by rw [← hW1]; simp [go_sem]
      have hD1 := hI.df.keeps s1 (fun _ _ h => h)
      have hCh := Lib.hid (changed_any hD1 x.key)
      have lm : W1.cell? ⟨mv, 0, none⟩ = some (.pointer (some ⟨db, 0, none⟩)) := s1.cell (hI.keep.cell (hk2'.out.cell hm'.out (fun h => h)) hmo'.out) (fun h => h)
      have lm0 := lm
      rw [← hW1] at lm0
      have hI' := Lib.hid hI
      have s1' := Lib.hid s1
      have hW1' := Lib.hid hW1
      have hfs' := Lib.hid hfs
      have hft' := Lib.hid hft
      have hfp' := Lib.hid hfp
      have hD1' := Lib.hid hD1
      have hwlt := Lib.hid (lt_of_cell l0)
      obtain ⟨bb, hbb⟩ : ∃ bb, (lent x.key Di.L).dirty = bb := ⟨_, rfl⟩
      rw [hbb] at hCh
      have hbb' := Lib.hid hbb
      clear hI s1 hW1 hent hfs hft hfp hD1 hbb hrn hxm
      go_wp2_with fail
      rw [hW1'.out]
      clear lm0
      refine (hCh.out).mono ?_
      rintro e w3 ⟨rfl, hk3⟩
      have hD3 := hD1'.out.keeps hk3 (fun _ _ h => h)
      have l3 := hk3.cell l0 (fun h => h)
      have m3 := hk3.cell lm (fun h => h)
      have p3 := hD3.c2
      rw [hI'.out.per] at p3
      have hk3' := Lib.hid hk3
      have hD3' := Lib.hid hD3
      have hs3 := Lib.hid (s1'.out.trans hk3)
      clear hk3 hD3 hCh lm l0
      cases hbc : bb with
      | false =>
        rw [hbc] at hbb'
        go_wp2_with fail
        go_roundw
        case rel => exact ⟨j + 1, O2, Di, by omega, by go_num, ⟨hD3'.out, hI'.out.ok, hI'.out.lt.mono (by omega), hI'.out.per, hI'.out.keep.trans (hs3.out.mono (fun _ h => h.elim)), fun k hk => (hI'.out.grow k hk).imp (fun h => h) (fun h => ⟨h.1, Nat.lt_of_lt_of_le h.2 hs3.out.size⟩), (hfs'.out hbb'.out).symm⟩⟩
        case measure => simp [intOf]; omega
      | true =>
        rw [hbc] at hbb'
        have hq0 : 0 ≤ x.key / (per : Int) := Int.ediv_nonneg hxk.1 (by omega)
        have hq1 : x.key / (per : Int) ≤ 4096 := Int.le_trans (Int.ediv_le_self _ hxk.1) (by omega)
        obtain ⟨n, hn⟩ : ∃ n : Int, x.key / (per : Int) = n := ⟨_, rfl⟩
        have hfe : x.key / (Di.P.per : Int) = n := by rw [hI'.out.per, hn]
        rw [hn] at hq0 hq1
        have htd : x.key.tdiv (per : Int) = n := by rw [Int.tdiv_eq_ediv_of_nonneg hxk.1, hn]
        have hwn : IntKind.i64.wrap n = n := wrap_small (by omega) (by omega)
        have hS := Lib.hid (dstore_any (hD3'.out.keeps ((Keeps.refl Nil w3).drew) (fun _ _ h => h)) n hq0 hq1 hI'.out.ok.nodup (hI'.out.lt.mono (by omega)))
        have hft2 := hft'.out hbb'.out
        have hfp2 := hfp'.out hbb'.out
        rw [hfe] at hft2 hfp2
        have hmlt := lt_of_cell hm'.out
        have hwle := hk2'.out.size
        have nO1 : ¬ O2 mv := fun h => (hI'.out.grow _ h).elim hmo'.out (fun e => by omega)
        have nO2 : ¬ O2 wr.heap.size := fun h => by have := hI'.out.df.lt h; omega
        clear hmlt hwle hfe hn hbb' hbc
        by_cases hc : (Di.store n).1 = 0
        · have hre : resE (Di.store n).1 = .returned (.tuple #[]) := if_pos hc
          rw [hre] at hS
          have hft3 := Lib.hid (hft2 hc)
          have hT := Lib.hid (show ∀ W, Keeps O2 w3.drew W → W.cell? ⟨mv, 0, none⟩ = some (.pointer (some ⟨db, 0, none⟩)) ∧ W.cell? ⟨wr.heap.size, 0, none⟩ = some (.int .i64 x.key) from fun W hW => ⟨hW.cell m3 nO1, hW.cell l3 nO2⟩)
          have hst := Lib.hid (hI'.out.ok.store n)
          have hsl := Lib.hid (store_lt hI'.out.lt n)
          clear hre hc hft2 hfp2 nO1 nO2
          go_wp2_with fail
          go_region_held3 (fun W => W.cell? ⟨mv, 0, none⟩ = some (.pointer (some ⟨db, 0, none⟩)) ∧ W.cell? ⟨wr.heap.size, 0, none⟩ = some (.int .i64 x.key) ∧ W.cell? ⟨db, 2, none⟩ = some (.int .i64 (per : Nat))) (first | exact ⟨m3, l3, p3⟩ | exact ⟨(hT.out _ hk9'.out).1, (hT.out _ hk9'.out).2, by rw [hD9'.out.c2, store_per, hI'.out.per]⟩) ((go_at_call 57; refine (hS.out).mono ?_; rintro e w9 ⟨rfl, O9, hD9, hk9, hg9⟩; have hk9' := Lib.hid hk9; have hD9' := Lib.hid hD9; have hg9' := Lib.hid hg9; clear hk9 hD9 hg9))
          go_wp2_with fail
          go_roundw
          case rel =>
            have hKa := (hI'.out.keep.trans (hs3.out.mono (fun _ h => h.elim))).drew
            have hGa : Grow O O2 w2 w3.drew := fun k hk => (hI'.out.grow k hk).imp (fun h => h) (fun h => ⟨h.1, Nat.lt_of_lt_of_le h.2 hs3.out.size⟩)
            exact ⟨j + 1, O9, (Di.store n).2, by omega, by go_num, ⟨hD9'.out, hst.out.1, hsl.out.mono (by omega), by rw [store_per]; exact hI'.out.per, hKa.trans' hk9'.out (fun i hi => (hGa i hi).imp (fun h => h) (fun h => h.1)), hGa.trans hg9'.out hKa.size hk9'.out.size, hft3.out.symm⟩⟩
          case measure => simp [intOf]; omega
        · have hre : resE (Di.store n).1 = tornE (Di.store n).1 := if_neg hc
          have hRn : R = Di.store n := (hfp2 hc)
          rw [hre] at hS
          have hRn' := Lib.hid hRn
          have hre' := Lib.hid hre
          have hEnd := Lib.hid (show ∀ w5, (∃ O', DfAt w5 db pb keys most (Di.store n).2 O' ∧ Keeps O2 w3.drew w5 ∧ Grow O2 O' w3.drew w5) → DfOut w db pb keys most O (resE R.1) R.2 (tornE (Di.store n).1) w5 from by
            rintro w5 ⟨O', h1, h2, h3⟩
            have hKa := (hI'.out.keep.trans (hs3.out.mono (fun _ h => h.elim))).drew
            have hGa : Grow O O2 w2 w3.drew := fun k hk => (hI'.out.grow k hk).imp (fun h => h) (fun h => ⟨h.1, Nat.lt_of_lt_of_le h.2 hs3.out.size⟩)
            rw [hRn]
            exact ⟨hre.symm, O', h1, (hk2'.out.mono (fun _ h => h.elim)).trans (hKa.trans' h2 (fun i hi => (hGa i hi).imp (fun h => h) (fun h => h.1))), fun k hk => ((hGa.trans h3 hKa.size h2.size) k hk).imp (fun h => h) (fun h => ⟨Nat.le_trans hk2'.out.size h.1, h.2⟩)⟩)
          clear hre hRn hc hft2 hfp2 nO1 nO2
          go_wp2_with fail
          refine wp_region_held_drew (S := fun W => W.cell? ⟨mv, 0, none⟩ = some (.pointer (some ⟨db, 0, none⟩)) ∧ W.cell? ⟨wr.heap.size, 0, none⟩ = some (.int .i64 x.key) ∧ W.cell? ⟨db, 2, none⟩ = some (.int .i64 (per : Nat))) (by kernel_rfl) ?q1a (fun hHeld => ?q1b)
          case q1a => (try dsimp only); exact ⟨m3, l3, p3⟩
          case q1b =>
            refine wpAnyH_take (i := 0) (oi := _) (v := ?q1_1v) rfl (by kernel_rfl) (by kernel_rfl) (by kernel_rfl) (fun _ _ _ h => h) (Or.inl ⟨by rfl, ?q1_1y⟩) (by assumption) ?q1_1r
            case q1_1y => (intro w0 hSw; (try dsimp only at hSw); go_simp; try (with_reducible rfl))
            case q1_1r =>
              simp only [Act.put, List.getElem_toArray, List.getElem_cons_zero, List.setIfInBounds_toArray, List.set_cons_zero, List.set_cons_succ]
              refine wpAnyH_take (i := 1) (oi := _) (v := ?q1_2v) rfl (by kernel_rfl) (by kernel_rfl) (by kernel_rfl) (fun _ _ _ h => h) (Or.inl ⟨by rfl, ?q1_2y⟩) (by assumption) ?q1_2r
              case q1_2y => (intro w0 hSw; (try dsimp only at hSw); go_simp; try (with_reducible rfl))
              case q1_2r =>
                simp only [Act.put, List.getElem_toArray, List.getElem_cons_succ, List.getElem_cons_zero, List.setIfInBounds_toArray, List.set_cons_zero, List.set_cons_succ]
                refine wpAnyH_take (i := 2) (oi := _) (v := ?q1_3v) rfl (by kernel_rfl) (by kernel_rfl) (by kernel_rfl) (fun _ _ _ h => h) (Or.inl ⟨by rfl, ?q1_3y⟩) (by assumption) ?q1_3r
                case q1_3y => (intro w0 hSw; (try dsimp only at hSw); go_simp; try (with_reducible rfl))
                case q1_3r =>
                  simp only [Act.put, List.getElem_toArray, List.getElem_cons_succ, List.getElem_cons_zero, List.setIfInBounds_toArray, List.set_cons_zero, List.set_cons_succ]
                  refine wpAnyH_take (i := 3) (oi := _) (v := ?q1_4v) rfl (by kernel_rfl) (by kernel_rfl) (by kernel_rfl) (fun _ _ _ h => h) (Or.inl ⟨by rfl, ?q1_4y⟩) (by assumption) ?q1_4r
                  case q1_4y => (intro w0 hSw; (try dsimp only at hSw); go_simp; try (with_reducible rfl))
                  case q1_4r =>
                    simp only [Act.put, List.getElem_toArray, List.getElem_cons_succ, List.getElem_cons_zero, List.setIfInBounds_toArray, List.set_cons_zero, List.set_cons_succ]
                    refine wpAnyH_take (i := 4) (oi := _) (v := ?q1_5v) rfl (by kernel_rfl) (by kernel_rfl) (by kernel_rfl) (fun _ _ _ h => h) (Or.inl ⟨by rfl, ?q1_5y⟩) (by assumption) ?q1_5r
                    case q1_5y => (intro w0 hSw; (try dsimp only at hSw); go_simp; try (with_reducible rfl))
                    case q1_5r =>
                      simp only [Act.put, List.getElem_toArray, List.getElem_cons_succ, List.getElem_cons_zero, List.setIfInBounds_toArray, List.set_cons_zero, List.set_cons_succ]
                      refine wpAnyH_take (i := 5) (oi := _) (v := ?q1_6v) rfl (by kernel_rfl) (by kernel_rfl) (by kernel_rfl) (fun _ _ _ h => h) (Or.inl ⟨by rfl, ?q1_6y⟩) (by assumption) ?q1_6r
                      case q1_6y => (intro w0 hSw; (try dsimp only at hSw); go_simp; try (with_reducible rfl))
                      case q1_6r =>
                        simp only [Act.put, List.getElem_toArray, List.getElem_cons_succ, List.getElem_cons_zero, List.setIfInBounds_toArray, List.set_cons_zero, List.set_cons_succ]
                        refine wpAnyH_take (i := 6) (oi := _) (v := ?q1_7v) rfl (by kernel_rfl) (by kernel_rfl) (by kernel_rfl) (fun _ _ _ h => h) (Or.inl ⟨by rfl, ?q1_7y⟩) (by assumption) ?q1_7r
                        case q1_7y => (intro w0 hSw; (try dsimp only at hSw); go_simp; try (with_reducible rfl))
                        case q1_7r =>
                          simp only [Act.put, List.getElem_toArray, List.getElem_cons_succ, List.getElem_cons_zero, List.setIfInBounds_toArray, List.set_cons_zero, List.set_cons_succ]
                          refine wpAnyH_take (i := 7) (oi := _) (v := ?q1_8v) rfl (by kernel_rfl) (by kernel_rfl) (by kernel_rfl) (fun _ _ _ h => h) (Or.inl ⟨by rfl, ?q1_8y⟩) (by assumption) ?q1_8r
                          case q1_8y => (intro w0 hSw; (try dsimp only at hSw); go_simp; try (with_reducible rfl))
                          case q1_8r =>
                            simp only [Act.put, List.getElem_toArray, List.getElem_cons_succ, List.getElem_cons_zero, List.setIfInBounds_toArray, List.set_cons_zero, List.set_cons_succ]
                            refine wpAnyH_ready (rs := [8]) (by kernel_rfl) (by simp) ?q1_9g
                            case q1_9g =>
                              refine AllReadyH.cons (o := _) rfl (fun K hK => ?q1_9k) AllReadyH.nil
                              case q1_9k =>
                                go_simp
                                (refine (hS.out).mono ?_; rintro e w5 ⟨rfl, hE5⟩; exact ⟨rfl, hEnd.out w5 hE5⟩)
    · have e : L0.drop j = [] := List.drop_eq_nil_of_le (by omega)
      have hsp := hI.spec
      rw [e] at hsp
      have hRn : R = (0, Di) := hsp.symm
      have hI' := Lib.hid hI
      have hRn' := Lib.hid hRn
      clear hI hsp hRn e
      go_wp2_with fail
      go_end0
      rw [hRn'.out]
      exact ⟨rfl, O2, hI'.out.df, (hk2'.out.mono (fun _ h => h.elim)).trans hI'.out.keep, fun k hk => (hI'.out.grow k hk).imp (fun h => h) (fun h => ⟨Nat.le_trans hk2'.out.size h.1, h.2⟩)⟩
end Go.Proofs.Ytnickcjkipemmaa
