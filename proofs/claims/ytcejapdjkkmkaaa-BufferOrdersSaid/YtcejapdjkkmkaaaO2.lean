/- BufferOrders: the walk -/
import Derived.Test.YtcejapdjkkmkaaaO
namespace Go.Proofs.Ytcejapdjkkmkaaa
open Go.RowKit

attribute [local go_sem ↓] Go.wp_at_zero Go.wp_at_succ

/-- all items are sectors, of a length that may be -/
def Fine (l : List It) : Prop := ∀ x ∈ l, x.st = 1 ∧ x.data.length ≤ 140737488351232
theorem Fine.put {l : List It} (h : Fine l) {k : Int} {d : List Int} (hd : d.length ≤ 140737488351232) : Fine (iset ⟨k, 1, d⟩ l) := by
  intro x hx
  rcases mem_iset hx with rfl | hx
  · exact ⟨rfl, hd⟩
  · exact h x hx
/-- the second half: the row of the keys, the map of all, the rest in the buffer -/
structure TakeW (w0 w : World) (bb tb : Nat) (l0 l : List It) (O : Nat → Prop) (ra : Option Addr) (rc : Nat) : Prop where
  b : BufIn w0 w bb 1000 l O
  m : MapAt w tb (sents l0)
  row : KeyRow w ra rc (ikeys l0)
  no : ¬ O tb
  rno : ∀ g, blk ra = some g → ¬ O g
theorem TakeW.step {w0 w w' : World} {bb tb rc : Nat} {l0 l l' : List It} {O : Nat → Prop} {ra : Option Addr} (h : TakeW w0 w bb tb l0 l O ra rc) {v : Value} {e : Ending} (hB : BOut w bb 1000 O v l' e w') : ∃ O', TakeW w0 w' bb tb l0 l' O' ra rc ∧ Keeps O w w' := by
  obtain ⟨rfl, O', h1, h2, h3⟩ := h.b.out (Keeps.refl Nil _) hB
  refine ⟨O', ⟨h1, h.m.keeps h2 h.no, RowAt.keeps h.row h2 h.rno, fun ho => ?_, fun g hg ho => ?_⟩, h2⟩
  · rcases h3 tb ho with h4 | h4
    · exact h.no h4
    · have := h.m.lt; omega
  · rcases h3 g ho with h4 | h4
    · exact h.rno g hg h4
    · have : g < w.heap.size := RowAt.lt h.row hg
      omega

set_option maxHeartbeats 8000000 in
set_option maxRecDepth 100000 in
theorem orders_any (ax : Option Addr) (capx : Nat) (xs : List Int) (ay : Option Addr) (capy : Nat) (rows : List (List Int)) (w : World) (hx : IntsAt w ax xs) (hmx : xs.length ≤ maxLen) (hy : RowsAt .u8 w ay rows) (hmy : rows.length ≤ maxLen)
    (hb : ∀ i (_ : i < rows.length), rows[i].length ≤ 140737488351232 ∧ Bys rows[i]) :
    Calls Try.prog 3 #[.slice ax xs.length capx, .slice ay rows.length capy] w fun e w' => e = .returned (.bool true) ∧ Keeps Nil w w' := by
  obtain ⟨i3, hi3, hz0, hz1, hz2⟩ := info_parts info3
  have hmx2 : xs.length ≤ 9223372036854775807 := by unfold maxLen at hmx; omega
  have hmy2 : rows.length ≤ 9223372036854775807 := by unfold maxLen at hmy; omega
  have hx' := Lib.hid hx
  have hy' := Lib.hid hy
  have hb' := Lib.hid hb
  have hmk := @run_makeMap Try.prog
  clear hx hy hmx hmy hb
  go_enter Try.func3, Try.ntmps3
  go_wp2_with fail
  refine (awake_any w).mono ?_
  rintro e w1 ⟨rfl, hk1⟩
  have hk1' := Lib.hid hk1
  clear hk1
  go_wp2_with fail
  refine (newX 1000 w1 (by omega)).mono ?_
  rintro e w2 ⟨bb, O, rfl, hL, hK, hO⟩
  have hB0 := Lib.hid (show BufIn w w2 bb 1000 [] O from ⟨hL, hk1'.out.trans hK, fun k hk => by have := hO k hk; have := hk1'.out.size; omega⟩)
  clear hL hK hO hk1'
  go_wp2_with fail
  obtain ⟨tb, htb⟩ : ∃ tb : Nat, tb = w2.heap.size := ⟨_, rfl⟩
  have hM0 := Lib.hid (show NewW w (w2.alloc (.map #[] 0)) bb tb 1000 [] (sents []) O none 0 from by
    have hk : Keeps Nil w2 (w2.alloc (.map #[] 0)) := (Keeps.refl Nil w2).alloc _
    exact ⟨⟨⟨hB0.out.x.nil hk, hB0.out.k.trans hk, hB0.out.o⟩, by simp, by rw [htb]; exact MapAt.made w2, rfl, by rw [htb]; exact hB0.out.k.size, fun ho => by have := hB0.out.x.lt ho; omega⟩, RowAt.nil _ _ _, fun g hg => (by cases hg), fun g hg => (by cases hg)⟩)
  rw [← htb]
  clear htb hB0
  go_loopw [8, 10, 11, 12, 13] (fun v i _ _ _ wr => ∃ (k : Nat) (l : List It) (O : Nat → Prop) (ra : Option Addr) (rc : Nat), k ≤ 900 ∧ l.length ≤ k ∧ i = .int .i64 k ∧ v = .slice ra l.length rc ∧ Fine l ∧ NewW w wr bb tb 1000 l (sents l) O ra rc) (fun _ i _ _ _ _ => 900 - (intOf i).toNat)
  case atStart => exact ⟨0, [], O, none, 0, by omega, by simp, rfl, rfl, (fun x hx => by cases hx), hM0.out⟩
  case round =>
    obtain ⟨i, l, O2, ra, rc, hi, hli, rfl, rfl, hF, hM⟩ := hrel
    by_cases hin : i < xs.length ∧ i < 900
    · obtain ⟨hi1, hi2⟩ := hin
      obtain ⟨b, off, rfl, cw⟩ := hx'.out i hi1
      have c0 := hM.m.b.k.cell cw (fun h => h)
      have cw' := Lib.hid cw
      have hM' := Lib.hid hM
      have hF' := Lib.hid hF
      clear hM cw hF
      go_upto_if 50 with (fail)
      go_cut [11] (fun v wx => ∃ (d : List Int) (s : ByteArray), v = .string s ∧ Hid (strOfNums d = s) ∧ d.length ≤ 140737488351232 ∧ Hid (Bys d) ∧ wr = wx)
      case first =>
        by_cases hd : i < rows.length
        · obtain ⟨b2, off2, a2, cap2, rfl, cy, hn⟩ := hy'.out i hd
          have c1 := hM'.out.m.b.k.cell cy (fun h => h)
          have hcv : (convert 30 9 (.slice a2 rows[i].length cap2)).run Try.prog wr = .ok (.string (strOfNums rows[i])) wr := run_str (NumsAt.keeps hn hM'.out.m.b.k (fun _ _ h => h))
          have hbi := hb'.out i hd
          obtain ⟨d, hdd⟩ : ∃ d, rows[i] = d := ⟨_, rfl⟩
          rw [hdd] at c1 hcv hbi
          obtain ⟨s, hs⟩ : ∃ s, strOfNums d = s := ⟨_, rfl⟩
          rw [hs] at hcv
          have hs' := Lib.hid hs
          clear hdd cy hn hs
          go_wp2_with fail
          go_meet
          exact ⟨d, s, rfl, hs'.out, hbi.1, hbi.2, rfl⟩
        · go_wp2_with fail
          go_meet
          exact ⟨[], ByteArray.empty, rfl, rfl, by simp, (fun j hj => by simp at hj), rfl⟩
      case rest =>
        obtain ⟨d, s, rfl, hs, hdl, hdb, rfl⟩ := hcut
        have hdb' := Lib.hid hdb
        have hs' := Lib.hid hs
        clear hdb hs
        have hl0 : (l.length : Int) < 1000 := by omega
        have hset := Lib.hid (iput_set (most := 1000) (r := ⟨gi xs i, 1, d⟩) hl0)
        have hms := Lib.hid (show mset (gi xs i) (.string s) (sents l) = sents (iput 1000 ⟨gi xs i, 1, d⟩ l) from by rw [hset.out, ← mset_sents, hs'.out])
        have hFn := Lib.hid (show Fine (iput 1000 ⟨gi xs i, 1, d⟩ l) from by rw [hset.out]; exact hF'.out.put hdl)
        by_cases hth : gi xs i ∈ ikeys l
        · have hic := iput_in (most := 1000) (r := ⟨gi xs i, 1, d⟩) hth
          have hlk : (iput 1000 ⟨gi xs i, 1, d⟩ l).length = l.length := by rw [← ikeys_len, hic.2, ikeys_len]
          obtain ⟨v, hv⟩ : ∃ v, mget (gi xs i) (sents l) = some v := by
            cases hg : mget (gi xs i) (sents l) with
            | none => exact absurd (by rw [mkeys_sents]; exact hth) (mget_none.1 hg)
            | some v => exact ⟨v, rfl⟩
          have hv' := Lib.hid hv
          have hic' := Lib.hid hic
          have hlk' := Lib.hid hlk
          have hth' := Lib.hid hth
          clear hv hic hlk hth
          go_wp2_with (first | (at_lookup; refine wpList_look_in _ rfl _ _ 29 rfl 3 9 Try.underlying29 Try.underlying3 zero9 tb (sents l) rfl (by exact hM'.out.m.m) _ rfl v hv'.out ?_) | (at_mapUpdate; refine wpList_upd _ rfl _ _ _ 29 rfl 3 9 Try.underlying29 Try.underlying3 tb (sents l) rfl (by exact hM'.out.m.m) _ rfl (.string s) rfl ?_; intro w6 hm6 hk6 hz6; have hI6 := hM'.out.mid (Keeps.refl _ _) hk6; have c1 := hI6.k.cell cw'.out (fun h => h); have hI6' := Lib.hid hI6; have hm6' := Lib.hid hm6; have hk6' := Lib.hid hk6; obtain ⟨cap7, w7, hcv, hD7, hk7, hz7⟩ := run_tobytes w6 hs'.out hdb'.out; have hD7' := Lib.hid hD7; have hk7' := Lib.hid hk7; clear hI6 hm6 hk6 hz6 c0 hD7 hk7 hz7))
          refine (putX (hI6'.out.x.nil hk7'.out) (gi xs i) hD7'.out hdl (by omega) (by omega)).mono ?_
          rw [hic'.out.1]
          rintro e w8 ⟨rfl, hB⟩
          obtain ⟨O7, hM7⟩ := hM'.out.fin (f' := mset (gi xs i) (.string s) (sents l)) (Keeps.refl _ _) (ra5 := ra) (rc5 := rc) (by rw [hic'.out.2]; exact hM'.out.row) (fun g hg => .inl hg) hm6'.out hk6'.out hk7'.out (v := .int .i64 0) ⟨rfl, hB⟩ (by rw [hms.out]; exact mkeys_sents _) (by rw [hlk'.out]; omega)
          rw [hms.out] at hM7
          have hM7' := Lib.hid hM7
          clear hB hM7 hcv
          go_wp2_with fail
          go_roundw
          case rel => exact ⟨i + 1, _, O7, ra, rc, by omega, by rw [hlk'.out]; omega, by go_num, by rw [hlk'.out], hFn.out, hM7'.out⟩
          case measure => simp [intOf]; omega
        · have hic := iput_new (most := 1000) (r := ⟨gi xs i, 1, d⟩) hth hl0
          have hlk : (iput 1000 ⟨gi xs i, 1, d⟩ l).length = l.length + 1 := by rw [← ikeys_len, hic.2, List.length_append, ikeys_len]; rfl
          have hv' := Lib.hid (show mget (gi xs i) (sents l) = none from mget_none.2 (by rw [mkeys_sents]; exact hth))
          have hic' := Lib.hid hic
          have hlk' := Lib.hid hlk
          have hrow := Lib.hid (show ∀ W, Keeps Nil wr W → RowAt W 3 1 ra l.length rc ((ikeys l).map (Value.int .i64)) from fun W hW => by have := RowAt.keeps hM'.out.row hW (fun _ _ h => h); rwa [ikeys_len] at this)
          have hb1 := Lib.hid (show l.length + 1 ≤ maxLen by unfold maxLen; omega)
          have hb2 := Lib.hid (show (l.length + 1) * 8 ≤ 140737488355328 by omega)
          clear hic hlk hth
          go_wp2_with (first | (at_lookup; refine wpList_look_out _ rfl _ _ 29 rfl 3 9 Try.underlying29 Try.underlying3 zero9 tb (sents l) rfl (by exact hM'.out.m.m) _ rfl hv'.out ?_) | (at_builtin; refine wpList_app _ rfl _ _ 22 rfl 3 i3 (.int .i64 0) 1 8 Try.underlying22 hi3 hz0 hz1 hz2 rfl (by decide) ra l.length rc _ rfl _ 1 1 [.int .i64 (gi xs i)] rfl ?_ (hrow.out _ ((Keeps.refl Nil wr).alloc _)) (src_one (cell_new1 _ _ _)) (fun h => by cases h) (by simp [Value.oneCell']) hb1.out hb2.out; intro a5 cap5 w5 hr5 hk5 hb5; have k5 := ((Keeps.refl (fun k => blk ra = some k) wr).alloc (.cells #[.int .i64 (gi xs i)] 3)).trans hk5; have c5 := (hM'.out.keep5 k5).cell cw'.out (fun h => h); have hm5 := Lib.hid (hM'.out.map5 k5); have k5' := Lib.hid k5; have hr5' := Lib.hid hr5; have hb5' := Lib.hid hb5; clear hr5 hb5 hk5 k5 c0) | (at_mapUpdate; refine wpList_upd _ rfl _ _ _ 29 rfl 3 9 Try.underlying29 Try.underlying3 tb (sents l) rfl (by exact hm5.out) _ rfl (.string s) rfl ?_; intro w6 hm6 hk6 hz6; have hI6 := hM'.out.mid k5'.out hk6; have c1 := hI6.k.cell cw'.out (fun h => h); have hI6' := Lib.hid hI6; have hm6' := Lib.hid hm6; have hk6' := Lib.hid hk6; obtain ⟨cap7, w7, hcv, hD7, hk7, hz7⟩ := run_tobytes w6 hs'.out hdb'.out; have hD7' := Lib.hid hD7; have hk7' := Lib.hid hk7; clear hI6 hm6 hk6 hz6 c5 hD7 hk7 hz7))
          refine (putX (hI6'.out.x.nil hk7'.out) (gi xs i) hD7'.out hdl (by omega) (by omega)).mono ?_
          rw [hic'.out.1]
          rintro e w8 ⟨rfl, hB⟩
          obtain ⟨O7, hM7⟩ := hM'.out.fin (f' := mset (gi xs i) (.string s) (sents l)) k5'.out (ra5 := a5) (rc5 := cap5) (by rw [hic'.out.2]; unfold KeyRow; simpa [ikeys_len] using hr5'.out) (fun g hg => hb5'.out.elim (fun e => .inl (e ▸ hg)) (fun e => .inr (by rw [e.1] at hg; cases hg; simp))) hm6'.out hk6'.out hk7'.out (v := .int .i64 0) ⟨rfl, hB⟩ (by rw [hms.out]; exact mkeys_sents _) (by rw [hlk'.out]; omega)
          rw [hms.out] at hM7
          have hM7' := Lib.hid hM7
          clear hB hM7 hcv
          go_wp2_with fail
          go_roundw
          case rel => exact ⟨i + 1, _, O7, a5, cap5, by omega, by rw [hlk'.out]; omega, by go_num, by rw [hlk'.out], hFn.out, hM7'.out⟩
          case measure => simp [intOf]; omega
    · have hcase : (i < xs.length ∧ ¬ i < 900) ∨ ¬ i < xs.length := by omega
      have hT0 := Lib.hid (show TakeW w wr bb tb l (l.drop 0) O2 ra rc from ⟨hM.m.b, hM.m.m, hM.row, hM.m.no, fun g hg => (hM.rno g hg).1⟩)
      have hnd := Lib.hid hM.m.b.x.nodup
      have hF' := Lib.hid hF
      clear hM hin hF
      rcases hcase with ⟨hi1, hi2⟩ | hi1
      all_goals
        go_wp2_with fail
        go_loopw [14, 15, 16, 17, 18] (fun c _ _ _ _ wx => ∃ (q : Nat) (O : Nat → Prop), q ≤ l.length ∧ c = .int .i64 q ∧ TakeW w wx bb tb l (l.drop q) O ra rc) (fun c _ _ _ _ _ => l.length - (intOf c).toNat)
        case atStart => exact ⟨0, O2, by omega, rfl, hT0.out⟩
        case round =>
          obtain ⟨q, O3, hq, rfl, hT⟩ := hrel
          have hT' := Lib.hid hT
          clear hT
          by_cases hlt : q < l.length
          · have hdr := List.drop_eq_getElem_cons hlt
            have hmem : l[q] ∈ l := List.getElem_mem hlt
            have hgk : gi (ikeys l) q = l[q].key := by rw [gi_eq (by rw [ikeys_len]; exact hlt)]; simp [ikeys]
            obtain ⟨x, hx⟩ : ∃ x, l[q] = x := ⟨_, rfl⟩
            rw [hx] at hdr hmem hgk
            obtain ⟨hst, hxl⟩ := hF'.out x hmem
            have hget := Lib.hid (show mget x.key (sents l) = some (.string (strOfNums x.data)) from by rw [mget_sents, iget_mem hmem hnd.out]; rfl)
            have hdl2 : (l.drop (q + 1)).length < 1000000 := by
              have : (l.drop (q + 1)).length ≤ l.length := by simp
              omega
            have hTk := Lib.hid (by have := hT'.out.b.x; rw [hdr] at this; exact takeX this hdl2)
            clear hdl2
            obtain ⟨b2, off2, rfl, ck⟩ := hT'.out.row.ints q (by rw [ikeys_len]; exact hlt)
            rw [hgk] at ck
            have ck' := Lib.hid ck
            obtain ⟨kx, sx, dx⟩ := x
            simp only at hst hxl hget hTk ck'
            subst hst
            obtain ⟨s, hs⟩ : ∃ s, strOfNums dx = s := ⟨_, rfl⟩
            rw [hs] at hget
            have hs' := Lib.hid hs
            have hne := fun W => run_neq_str s W
            have e1 : (kx != kx) = false := by simp
            clear hdr hmem hgk hx ck hs
            go_wp2_with fail
            refine (hTk.out).mono ?_
            rintro e w3 ⟨a3, cap3, hB3, hD3⟩
            obtain ⟨O4, hT4, hK4⟩ := hT'.out.step hB3
            have he := hB3.1
            subst he
            have c2 := hK4.cell ck'.out (hT'.out.rno b2 rfl)
            have hT4' := Lib.hid hT4
            have hcv : (convert 30 9 (.slice a3 dx.length cap3)).run Try.prog w3 = .ok (.string s) w3 := by rw [← hs'.out]; exact run_str hD3
            clear hB3 hD3 hT4 hK4 hTk
            have hlk3 := run_look (P := Try.prog) Try.underlying29 Try.underlying3 (zero9 w3) hT4'.out.m kx
            rw [hget.out] at hlk3
            simp only [Option.getD_some] at hlk3
            go_wp2_with fail
            go_roundw
            case rel => exact ⟨q + 1, O4, by omega, by go_num, hT4'.out⟩
            case measure => simp [intOf]; omega
          · have hnil : l.drop q = [] := List.drop_eq_nil_of_le (by omega)
            have hTn := Lib.hid (by have := hT'.out.b.x; rw [hnil] at this; exact takeN this)
            have hLn := Lib.hid (by have := hT'.out.b.x; rw [hnil] at this; exact lenX this)
            clear hnil
            go_wp2_with fail
            refine (hTn.out).mono ?_
            rintro e w3 ⟨rfl, rfl⟩
            go_wp2_with fail
            refine (hLn.out).mono ?_
            rintro e w3 ⟨rfl, rfl⟩
            go_wp2_with fail
            go_ret
            exact ⟨rfl, hT'.out.b.k⟩
end Go.Proofs.Ytcejapdjkkmkaaa
