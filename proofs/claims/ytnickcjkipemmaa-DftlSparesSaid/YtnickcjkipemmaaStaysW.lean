/- LruStays: the walk -/
import Derived.Test.YtnickcjkipemmaaStays
namespace Go.Proofs.Ytnickcjkipemmaa
open Go.RowKit

theorem zero3 (W : World) : (zeroValue 3).run Try.prog W = .ok (.int .i64 0) W := by kernel_rfl

structure CacheIn (w wr : World) (cb : Nat) (m : Int) (L : List Ent) (O : Nat → Prop) : Prop where
  lru : LruX wr cb m L O
  len : (L.length : Int) ≤ m
  keep : Keeps Nil w wr
  new : ∀ k, O k → w.heap.size ≤ k
theorem CacheIn.put {w wr w' : World} {cb : Nat} {m : Int} {L : List Ent} {O : Nat → Prop} {v : Value} {e : Ent} {en : Ending} (h : CacheIn w wr cb m L O) (hm : 1 ≤ m) (hc : CacheOut wr cb m O v (lput m e L) en w') :
    en = .returned v ∧ ∃ O', CacheIn w w' cb m (lput m e L) O' ∧ Keeps O wr w' ∧ ∀ g, g < wr.heap.size → ¬ O g → ¬ O' g := by
  obtain ⟨h1, O', h2, h3, h4, h5, h6⟩ := cache_step2 h.keep h.new hc
  exact ⟨h1, O', ⟨h2, lput_length hm h.len, h3, h4⟩, h5, h6⟩
theorem CacheIn.get {w wr w' : World} {cb : Nat} {m : Int} {L : List Ent} {O : Nat → Prop} {v : Value} {k : Int} {en : Ending} (h : CacheIn w wr cb m L O) (hc : CacheOut wr cb m O v (lfront k L) en w') :
    en = .returned v ∧ ∃ O', CacheIn w w' cb m (lfront k L) O' ∧ Keeps O wr w' ∧ ∀ g, g < wr.heap.size → ¬ O g → ¬ O' g := by
  obtain ⟨h1, O', h2, h3, h4, h5, h6⟩ := cache_step2 h.keep h.new hc
  exact ⟨h1, O', ⟨h2, by rw [lfront_length]; exact h.len, h3, h4⟩, h5, h6⟩
theorem CacheIn.same {w wr w' : World} {cb : Nat} {m : Int} {L : List Ent} {O : Nat → Prop} {v : Value} {en : Ending} (h : CacheIn w wr cb m L O) (hc : CacheOut wr cb m O v L en w') :
    en = .returned v ∧ ∃ O', CacheIn w w' cb m L O' ∧ Keeps O wr w' ∧ ∀ g, g < wr.heap.size → ¬ O g → ¬ O' g := by
  obtain ⟨h1, O', h2, h3, h4, h5, h6⟩ := cache_step2 h.keep h.new hc
  exact ⟨h1, O', ⟨h2, h.len, h3, h4⟩, h5, h6⟩
theorem CacheIn.nil {w wr w' : World} {cb : Nat} {m : Int} {L : List Ent} {O : Nat → Prop} (h : CacheIn w wr cb m L O) (hk : Keeps Nil wr w') : CacheIn w w' cb m L O := ⟨h.lru.nil hk, h.len, h.keep.trans hk, h.new⟩
theorem CacheIn.other {w wr w' : World} {cb : Nat} {m : Int} {L : List Ent} {O : Nat → Prop} {tb : Nat} (h : CacheIn w wr cb m L O) (hk : Keeps (· = tb) wr w') (ht : w.heap.size ≤ tb) (hn : ¬ O tb) : CacheIn w w' cb m L O :=
  ⟨h.lru.keeps hk (fun k hk e => hn (by rw [← e]; exact hk)), h.len, h.keep.trans' hk (fun j hj => .inr (by rw [hj]; exact ht)), h.new⟩

/-- the state of the second loop -/
structure StaysIn (w wr : World) (cb : Nat) (m key : Int) (tb : Nat) (L : List Ent) (O : Nat → Prop) (f : List (Int × Value)) : Prop where
  cache : CacheIn w wr cb m L O
  met : MapAt wr tb f
  nodup : (mkeys f).Nodup
  apart : ¬ O tb
  mine : w.heap.size ≤ tb

theorem mset_keys_sub {k : Int} {x : Value} {f : List (Int × Value)} : ∀ j, j ∈ k :: mkeys f → j ∈ mkeys (mset k x f) := by
  intro j hj
  by_cases h : k ∈ mkeys f
  · rw [mkeys_set_in h]
    rcases List.mem_cons.1 hj with rfl | hj
    · exact h
    · exact hj
  · rw [mset_new h]
    unfold mkeys at hj ⊢
    rw [List.map_append]
    rcases List.mem_cons.1 hj with rfl | hj
    · simp
    · simp [hj]
theorem mset_nodup {k : Int} {x : Value} {f : List (Int × Value)} (h : (mkeys f).Nodup) : (mkeys (mset k x f)).Nodup := by
  by_cases hk : k ∈ mkeys f
  · rw [mkeys_set_in hk]; exact h
  · rw [mset_new hk]
    unfold mkeys at h hk ⊢
    rw [List.map_append, List.nodup_append]
    refine ⟨h, by simp, fun a ha b hb e => ?_⟩
    simp only [List.map_cons, List.map_nil, List.mem_cons, List.not_mem_nil, or_false] at hb
    rw [e, hb] at ha
    exact hk ha

set_option maxHeartbeats 8000000 in
set_option maxRecDepth 100000 in
theorem stays_any (most key : Int) (ax : Option Addr) (capx : Nat) (xs : List Int) (ab : Option Addr) (capb : Nat) (bs : List Bool) (w : World) (h0 : -9223372036854775808 ≤ most) (h1 : most ≤ 9223372036854775807) (hx : IntsAt w ax xs) (hmx : xs.length ≤ maxLen) (hb : BoolsAt w ab bs) (hmb : bs.length ≤ maxLen) :
    Calls Try.prog 3 #[.int .i64 most, .int .i64 key, .slice ax xs.length capx, .slice ab bs.length capb] w fun e w' => e = .returned (.bool true) ∧ Keeps Nil w w' := by
  obtain ⟨a, ha⟩ : ∃ a, absI most = a := ⟨_, rfl⟩
  have ha0 : 0 ≤ a := by rw [← ha]; exact absI_nonneg _
  have hA := Lib.hid (fun W => abs_val most a W h0 h1 ha)
  have ham : 0 ≤ a % 12 := by omega
  have ham2 : a % 12 ≤ 11 := by omega
  have hmx2 : xs.length ≤ 9223372036854775807 := by unfold maxLen at hmx; omega
  have hmb2 : bs.length ≤ 9223372036854775807 := by unfold maxLen at hmb; omega
  have hx' := Lib.hid hx
  have hb' := Lib.hid hb
  have hmk := @run_makeMap Try.prog
  clear ha h0 h1 hx hb hmx hmb
  go_enter Try.func3, Try.ntmps3
  go_wp2_with fail
  refine (awake_any w).mono ?_
  rintro e w1 ⟨rfl, hk1⟩
  have hk1' := Lib.hid hk1
  clear hk1
  go_wp2_with fail
  refine (hA.out _).mono ?_
  rintro e w2 ⟨rfl, rfl⟩
  go_wp2_with fail
  refine (newX (1 + a % 12) w1 (by omega)).mono ?_
  rintro e w2 ⟨cb, O, rfl, hL, hK, hO⟩
  have hC0 := Lib.hid (show CacheIn w w2 cb (1 + a % 12) [] O from ⟨hL, by simp; omega, hk1'.out.trans hK, fun k hk => by have := hO k hk; have := hk1'.out.size; omega⟩)
  clear hL hK hO hk1' hA
  go_wp2_with fail
  go_loopw [12] (fun i wr => ∃ (k : Nat) (L : List Ent) (O : Nat → Prop), k ≤ 30 ∧ i = .int .i64 k ∧ CacheIn w wr cb (1 + a % 12) L O) (fun i _ => 30 - (intOf i).toNat)
  case atStart => exact ⟨0, [], O, by omega, rfl, hC0.out⟩
  case round =>
    obtain ⟨i, L, O2, hi, rfl, hC⟩ := hrel
    by_cases hin : i < xs.length ∧ i < 30
    · obtain ⟨hi1, hi2⟩ := hin
      obtain ⟨b, off, rfl, hc⟩ := (hx'.out.keeps hC.keep (fun _ _ _ h => h)) i hi1
      have hP := Lib.hid (putX' hC.lru ⟨gi xs i, 0, false⟩ hC.len (by omega))
      have hC' := Lib.hid hC
      clear hC
      go_wp2_with fail
      refine (hP.out).mono ?_
      intro e w3 h3
      obtain ⟨rfl, O3, hC3, _, _⟩ := hC'.out.put (by omega) h3
      have hC3' := Lib.hid hC3
      clear h3 hC3
      go_wp2_with fail
      go_roundw
      case rel => exact ⟨i + 1, _, O3, by omega, by go_num, hC3'.out⟩
      case measure => simp [intOf]; omega
    · have hcase : (i < xs.length ∧ ¬ i < 30) ∨ ¬ i < xs.length := by omega
      have hP := Lib.hid (putX' hC.lru ⟨key, 77, false⟩ hC.len (by omega))
      have hC' := Lib.hid hC
      clear hC hin
      rcases hcase with ⟨hi1, hi2⟩ | hi1
      all_goals
        go_wp2_with fail
        refine (hP.out).mono ?_
        intro e w3 h3
        obtain ⟨rfl, O3, hC3, _, _⟩ := hC'.out.put (by omega) h3
        have hpr := Lib.hid (show Present key [] (lput (1 + a % 12) ⟨key, 77, false⟩ L) from present_first)
        obtain ⟨L3, hL3⟩ : ∃ L3, lput (1 + a % 12) ⟨key, 77, false⟩ L = L3 := ⟨_, rfl⟩
        rw [hL3] at hC3 hpr
        have hC3' := Lib.hid hC3
        clear h3 hC3 hL3
        go_wp2_with fail
        have hS0 := Lib.hid (show StaysIn w (w3.alloc (.map #[] 0)) cb (1 + a % 12) key w3.heap.size L3 O3 [] from ⟨hC3'.out.nil ((Keeps.refl Nil w3).alloc _), MapAt.made w3, List.nodup_nil, fun ho => by have := hC3'.out.lru.lt ho; omega, hC3'.out.keep.size⟩)
        obtain ⟨tb, htb⟩ : ∃ tb : Nat, tb = w3.heap.size := ⟨_, rfl⟩
        rw [← htb] at hS0 ⊢
        clear htb hC3' hC' hP hC0
        go_loopw [14, 15, 16] (fun i x y wr => ∃ (k : Nat) (L : List Ent) (O : Nat → Prop) (f : List (Int × Value)), k ≤ 60 ∧ i = .int .i64 k ∧ StaysIn w wr cb (1 + a % 12) key tb L O f ∧ Present key (mkeys f) L ∧ (f.length : Int) < 1 + a % 12) (fun i _ _ _ => 60 - (intOf i).toNat)
        case atStart => exact ⟨0, L3, O3, [], by omega, rfl, hS0.out, hpr.out, by simp; omega⟩
        case round =>
          obtain ⟨j, L4, O4, f4, hj, rfl, hS, hP4, hfl⟩ := hrel
          by_cases hin : j < xs.length ∧ j < 60
          · obtain ⟨hi1', hi2'⟩ := hin
            obtain ⟨b, off, rfl, hc⟩ := (hx'.out.keeps hS.cache.keep (fun _ _ _ h => h)) j hi1'
            have hSx := Lib.hid hS
            have hPx := Lib.hid hP4
            clear hS hP4
            by_cases hke : gi xs j = key
            · have e1 : (gi xs j == key) = true := by simpa using hke
              clear hke
              go_wp2_with fail
              go_roundw
              case rel => exact ⟨j + 1, L4, O4, f4, by omega, by go_num, hSx.out, hPx.out, hfl⟩
              case measure => simp [intOf]; omega
            · have e1 : (gi xs j == key) = false := by simpa using hke
              have hke' := Lib.hid (show key ≠ gi xs j from fun e => hke e.symm)
              clear hke
              have hcellX := Lib.hid hc
              have hxlt := lt_of_cell hc
              have hPut := Lib.hid (putX' hSx.out.cache.lru ⟨gi xs j, 0, false⟩ hSx.out.cache.len (by omega))
              have hGet := Lib.hid (getX hSx.out.cache.lru (gi xs j))
              by_cases hask : j < bs.length ∧ gb bs j = true
              · obtain ⟨hjb, hgb⟩ := hask
                obtain ⟨bb, ob, rfl, hcb⟩ := (hb'.out.keeps hSx.out.cache.keep (fun _ _ _ h => h)) j hjb
                rw [hgb] at hcb
                clear hgb
                cases hhas : lhas (gi xs j) L4
                · have hfr := Lib.hid (lfront_absent hhas)
                  have hhas' := Lib.hid hhas
                  clear hhas
                  go_wp2_with fail
                  refine (hGet.out).mono ?_
                  rw [hhas'.out, hfr.out]
                  intro e w5 h3
                  obtain ⟨rfl, O5, hC5, hk5, hn5⟩ := (show CacheIn w wr cb (1 + a % 12) L4 O4 from hSx.out.cache).same h3
                  have hSn := Lib.hid (show StaysIn w w5 cb (1 + a % 12) key tb L4 O5 f4 from ⟨hC5, hSx.out.met.keeps hk5 hSx.out.apart, hSx.out.nodup, hn5 tb hSx.out.met.lt hSx.out.apart, hSx.out.mine⟩)
                  have hLe := Lib.hid (lenX hC5.lru)
                  have hle := hC5.len
                  have hm5 := Lib.hid (hSx.out.met.keeps hk5 hSx.out.apart)
                  have hd1 : decide (1 + a % 12 ≤ (f4.length : Int)) = false := decide_eq_false (by omega)
                  have hd2 : decide (1 + a % 12 < (L4.length : Int)) = false := decide_eq_false (by omega)
                  clear h3 hC5 hk5 hn5 hPut hGet hc hcb
                  go_wp2_with (at_len; refine wpList_mlen _ rfl _ 35 rfl 3 3 Try.underlying35 tb _ rfl (by exact hm5.out) ?_)
                  refine (hLe.out).mono ?_
                  rintro e w6 ⟨rfl, rfl⟩
                  go_wp2_with fail
                  go_roundw
                  case rel => exact ⟨j + 1, L4, O5, f4, by omega, by go_num, hSn.out, hPx.out, hfl⟩
                  case measure => simp [intOf]; omega
                · have hhas' := Lib.hid hhas
                  clear hhas
                  go_wp2_with fail
                  refine (hGet.out).mono ?_
                  rw [hhas'.out]
                  intro e w5 h3
                  obtain ⟨rfl, O5, hC5, hk5, hn5⟩ := hSx.out.cache.get h3
                  by_cases hfull : 1 + a % 12 ≤ ((mset (gi xs j) (.int .i64 1) f4).length : Int)
                  · have hfm := hfull
                    have hd1 : decide (1 + a % 12 ≤ ((mset (gi xs j) (.int .i64 1) f4).length : Int)) = true := decide_eq_true hfull
                    have hm5 := Lib.hid (hSx.out.met.keeps hk5 hSx.out.apart)
                    have hap5 := Lib.hid (hn5 tb hSx.out.met.lt hSx.out.apart)
                    have hmine := hSx.out.mine
                    have hc5 := (hx'.out.keeps hC5.keep (fun _ _ _ h => h)) j hi1'
                    obtain ⟨b5, off5, hbe, hc5⟩ := hc5
                    cases hbe
                    have hC5' := Lib.hid hC5
                    clear h3 hC5 hk5 hn5 hPut hGet hc
                    go_wp2_with (first | (at_mapUpdate; refine wpList_upd _ rfl _ _ _ 35 rfl 3 3 Try.underlying35 Try.underlying3 tb f4 rfl (by exact hm5.out) _ rfl (.int .i64 1) rfl ?_; intro w6 hm6 hk6 hz6; have hC6 := Lib.hid (hC5'.out.other hk6 hmine hap5.out); have hm6' := Lib.hid hm6; clear hm6 hk6 hz6) | (at_len; refine wpList_mlen _ rfl _ 35 rfl 3 3 Try.underlying35 tb _ rfl (by exact hm6'.out) ?_))
                    have hSn := Lib.hid (show StaysIn w w6 cb (1 + a % 12) key tb (lfront (gi xs j) L4) O5 (mset (gi xs j) (.int .i64 1) f4) from ⟨hC6.out, hm6'.out, mset_nodup hSx.out.nodup, hap5.out, hmine⟩)
                    have hPn := Lib.hid (show ¬ 1 + a % 12 ≤ ((mset (gi xs j) (.int .i64 1) f4).length : Int) → Present key (mkeys (mset (gi xs j) (.int .i64 1) f4)) (lfront (gi xs j) L4) from fun _ => (present_front hPx.out hke'.out hhas'.out).more mset_keys_sub)
                    have hSx := hSn
                    clear hfull
                    have hG := Lib.hid (getX hSx.out.cache.lru key)
                    refine (hG.out).mono ?_
                    intro e w5 h3
                    obtain ⟨rfl, O6, hC6, hk6, hn6⟩ := hSx.out.cache.get h3
                    have hm6 := Lib.hid (hSx.out.met.keeps hk6 hSx.out.apart)
                    have hLe := Lib.hid (lenX hC6.lru)
                    have hle := hC6.len
                    have hdle : decide (((lfront key (lfront (gi xs j) L4)).length : Int) ≤ 1 + a % 12) = true := decide_eq_true hle
                    have hKend := Lib.hid hC6.keep
                    have hfd : decide (1 + a % 12 ≤ ((mset (gi xs j) (.int .i64 1) f4).length : Int)) = true := decide_eq_true hfm
                    clear h3 hC6 hk6 hn6 hG
                    go_wp2_with fail
                    refine (hLe.out).mono ?_
                    rintro e w6 ⟨rfl, rfl⟩
                    have hrl := run_mlen (P := Try.prog) Try.underlying35 hm6.out 3
                    go_wp2_with fail
                    go_ret
                    exact ⟨rfl, hKend.out⟩
                  · have hd1 : decide (1 + a % 12 ≤ ((mset (gi xs j) (.int .i64 1) f4).length : Int)) = false := decide_eq_false hfull
                    have hm5 := Lib.hid (hSx.out.met.keeps hk5 hSx.out.apart)
                    have hap5 := Lib.hid (hn5 tb hSx.out.met.lt hSx.out.apart)
                    have hmine := hSx.out.mine
                    have hc5 := (hx'.out.keeps hC5.keep (fun _ _ _ h => h)) j hi1'
                    obtain ⟨b5, off5, hbe, hc5⟩ := hc5
                    cases hbe
                    have hC5' := Lib.hid hC5
                    clear h3 hC5 hk5 hn5 hPut hGet hc
                    go_wp2_with (first | (at_mapUpdate; refine wpList_upd _ rfl _ _ _ 35 rfl 3 3 Try.underlying35 Try.underlying3 tb f4 rfl (by exact hm5.out) _ rfl (.int .i64 1) rfl ?_; intro w6 hm6 hk6 hz6; have hC6 := Lib.hid (hC5'.out.other hk6 hmine hap5.out); have hm6' := Lib.hid hm6; clear hm6 hk6 hz6) | (at_len; refine wpList_mlen _ rfl _ 35 rfl 3 3 Try.underlying35 tb _ rfl (by exact hm6'.out) ?_))
                    have hSn := Lib.hid (show StaysIn w w6 cb (1 + a % 12) key tb (lfront (gi xs j) L4) O5 (mset (gi xs j) (.int .i64 1) f4) from ⟨hC6.out, hm6'.out, mset_nodup hSx.out.nodup, hap5.out, hmine⟩)
                    have hPn := Lib.hid (show ¬ 1 + a % 12 ≤ ((mset (gi xs j) (.int .i64 1) f4).length : Int) → Present key (mkeys (mset (gi xs j) (.int .i64 1) f4)) (lfront (gi xs j) L4) from fun _ => (present_front hPx.out hke'.out hhas'.out).more mset_keys_sub)
                    have hle := hC6.out.len
                    have hLe := Lib.hid (lenX hC6.out.lru)
                    have hd2 : decide (1 + a % 12 < ((lfront (gi xs j) L4).length : Int)) = false := decide_eq_false (by omega)
                    refine (hLe.out).mono ?_
                    rintro e w7 ⟨rfl, rfl⟩
                    go_wp2_with fail
                    go_roundw
                    case rel => exact ⟨j + 1, _, O5, _, by omega, by go_num, hSn.out, hPn.out (by omega), by omega⟩
                    case measure => simp [intOf]; omega
              · have hno : (j < bs.length ∧ gb bs j = false) ∨ ¬ j < bs.length := by
                  by_cases h : j < bs.length
                  · refine .inl ⟨h, ?_⟩
                    cases hg : gb bs j with
                    | false => rfl
                    | true => exact absurd ⟨h, hg⟩ hask
                  · exact .inr h
                clear hask
                rcases hno with ⟨hjb, hgb⟩ | hjb
                · obtain ⟨bb, ob, rfl, hcb⟩ := (hb'.out.keeps hSx.out.cache.keep (fun _ _ _ h => h)) j hjb
                  rw [hgb] at hcb
                  clear hgb
                  go_wp2_with fail
                  refine (hPut.out).mono ?_
                  intro e w5 h3
                  obtain ⟨rfl, O5, hC5, hk5, hn5⟩ := hSx.out.cache.put (by omega) h3
                  by_cases hfull : 1 + a % 12 ≤ ((mset (gi xs j) (.int .i64 1) f4).length : Int)
                  · have hfm := hfull
                    have hd1 : decide (1 + a % 12 ≤ ((mset (gi xs j) (.int .i64 1) f4).length : Int)) = true := decide_eq_true hfull
                    have hm5 := Lib.hid (hSx.out.met.keeps hk5 hSx.out.apart)
                    have hap5 := Lib.hid (hn5 tb hSx.out.met.lt hSx.out.apart)
                    have hmine := hSx.out.mine
                    have hc5 := (hx'.out.keeps hC5.keep (fun _ _ _ h => h)) j hi1'
                    obtain ⟨b5, off5, hbe, hc5⟩ := hc5
                    cases hbe
                    have hC5' := Lib.hid hC5
                    clear h3 hC5 hk5 hn5 hPut hGet hc
                    go_wp2_with (first | (at_mapUpdate; refine wpList_upd _ rfl _ _ _ 35 rfl 3 3 Try.underlying35 Try.underlying3 tb f4 rfl (by exact hm5.out) _ rfl (.int .i64 1) rfl ?_; intro w6 hm6 hk6 hz6; have hC6 := Lib.hid (hC5'.out.other hk6 hmine hap5.out); have hm6' := Lib.hid hm6; clear hm6 hk6 hz6) | (at_len; refine wpList_mlen _ rfl _ 35 rfl 3 3 Try.underlying35 tb _ rfl (by exact hm6'.out) ?_))
                    have hSn := Lib.hid (show StaysIn w w6 cb (1 + a % 12) key tb (lput (1 + a % 12) ⟨gi xs j, 0, false⟩ L4) O5 (mset (gi xs j) (.int .i64 1) f4) from ⟨hC6.out, hm6'.out, mset_nodup hSx.out.nodup, hap5.out, hmine⟩)
                    have hPn := Lib.hid (show ¬ 1 + a % 12 ≤ ((mset (gi xs j) (.int .i64 1) f4).length : Int) → Present key (mkeys (mset (gi xs j) (.int .i64 1) f4)) (lput (1 + a % 12) ⟨gi xs j, 0, false⟩ L4) from fun hno => by
                      rcases present_put (s := ⟨gi xs j, 0, false⟩) (m := 1 + a % 12) hPx.out hke'.out hSx.out.cache.lru.nodup mset_keys_sub with h | h
                      · exact h
                      · rw [mkeys_length] at h; exact absurd h hno)
                    have hSx := hSn
                    clear hfull
                    have hG := Lib.hid (getX hSx.out.cache.lru key)
                    refine (hG.out).mono ?_
                    intro e w5 h3
                    obtain ⟨rfl, O6, hC6, hk6, hn6⟩ := hSx.out.cache.get h3
                    have hm6 := Lib.hid (hSx.out.met.keeps hk6 hSx.out.apart)
                    have hLe := Lib.hid (lenX hC6.lru)
                    have hle := hC6.len
                    have hdle : decide (((lfront key (lput (1 + a % 12) ⟨gi xs j, 0, false⟩ L4)).length : Int) ≤ 1 + a % 12) = true := decide_eq_true hle
                    have hKend := Lib.hid hC6.keep
                    have hfd : decide (1 + a % 12 ≤ ((mset (gi xs j) (.int .i64 1) f4).length : Int)) = true := decide_eq_true hfm
                    clear h3 hC6 hk6 hn6 hG
                    go_wp2_with fail
                    refine (hLe.out).mono ?_
                    rintro e w6 ⟨rfl, rfl⟩
                    have hrl := run_mlen (P := Try.prog) Try.underlying35 hm6.out 3
                    go_wp2_with fail
                    go_ret
                    exact ⟨rfl, hKend.out⟩
                  · have hd1 : decide (1 + a % 12 ≤ ((mset (gi xs j) (.int .i64 1) f4).length : Int)) = false := decide_eq_false hfull
                    have hm5 := Lib.hid (hSx.out.met.keeps hk5 hSx.out.apart)
                    have hap5 := Lib.hid (hn5 tb hSx.out.met.lt hSx.out.apart)
                    have hmine := hSx.out.mine
                    have hc5 := (hx'.out.keeps hC5.keep (fun _ _ _ h => h)) j hi1'
                    obtain ⟨b5, off5, hbe, hc5⟩ := hc5
                    cases hbe
                    have hC5' := Lib.hid hC5
                    clear h3 hC5 hk5 hn5 hPut hGet hc
                    go_wp2_with (first | (at_mapUpdate; refine wpList_upd _ rfl _ _ _ 35 rfl 3 3 Try.underlying35 Try.underlying3 tb f4 rfl (by exact hm5.out) _ rfl (.int .i64 1) rfl ?_; intro w6 hm6 hk6 hz6; have hC6 := Lib.hid (hC5'.out.other hk6 hmine hap5.out); have hm6' := Lib.hid hm6; clear hm6 hk6 hz6) | (at_len; refine wpList_mlen _ rfl _ 35 rfl 3 3 Try.underlying35 tb _ rfl (by exact hm6'.out) ?_))
                    have hSn := Lib.hid (show StaysIn w w6 cb (1 + a % 12) key tb (lput (1 + a % 12) ⟨gi xs j, 0, false⟩ L4) O5 (mset (gi xs j) (.int .i64 1) f4) from ⟨hC6.out, hm6'.out, mset_nodup hSx.out.nodup, hap5.out, hmine⟩)
                    have hPn := Lib.hid (show ¬ 1 + a % 12 ≤ ((mset (gi xs j) (.int .i64 1) f4).length : Int) → Present key (mkeys (mset (gi xs j) (.int .i64 1) f4)) (lput (1 + a % 12) ⟨gi xs j, 0, false⟩ L4) from fun hno => by
                      rcases present_put (s := ⟨gi xs j, 0, false⟩) (m := 1 + a % 12) hPx.out hke'.out hSx.out.cache.lru.nodup mset_keys_sub with h | h
                      · exact h
                      · rw [mkeys_length] at h; exact absurd h hno)
                    have hle := hC6.out.len
                    have hLe := Lib.hid (lenX hC6.out.lru)
                    have hd2 : decide (1 + a % 12 < ((lput (1 + a % 12) ⟨gi xs j, 0, false⟩ L4).length : Int)) = false := decide_eq_false (by omega)
                    refine (hLe.out).mono ?_
                    rintro e w7 ⟨rfl, rfl⟩
                    go_wp2_with fail
                    go_roundw
                    case rel => exact ⟨j + 1, _, O5, _, by omega, by go_num, hSn.out, hPn.out (by omega), by omega⟩
                    case measure => simp [intOf]; omega
                · skip
                  go_wp2_with fail
                  refine (hPut.out).mono ?_
                  intro e w5 h3
                  obtain ⟨rfl, O5, hC5, hk5, hn5⟩ := hSx.out.cache.put (by omega) h3
                  by_cases hfull : 1 + a % 12 ≤ ((mset (gi xs j) (.int .i64 1) f4).length : Int)
                  · have hfm := hfull
                    have hd1 : decide (1 + a % 12 ≤ ((mset (gi xs j) (.int .i64 1) f4).length : Int)) = true := decide_eq_true hfull
                    have hm5 := Lib.hid (hSx.out.met.keeps hk5 hSx.out.apart)
                    have hap5 := Lib.hid (hn5 tb hSx.out.met.lt hSx.out.apart)
                    have hmine := hSx.out.mine
                    have hc5 := (hx'.out.keeps hC5.keep (fun _ _ _ h => h)) j hi1'
                    obtain ⟨b5, off5, hbe, hc5⟩ := hc5
                    cases hbe
                    have hC5' := Lib.hid hC5
                    clear h3 hC5 hk5 hn5 hPut hGet hc
                    go_wp2_with (first | (at_mapUpdate; refine wpList_upd _ rfl _ _ _ 35 rfl 3 3 Try.underlying35 Try.underlying3 tb f4 rfl (by exact hm5.out) _ rfl (.int .i64 1) rfl ?_; intro w6 hm6 hk6 hz6; have hC6 := Lib.hid (hC5'.out.other hk6 hmine hap5.out); have hm6' := Lib.hid hm6; clear hm6 hk6 hz6) | (at_len; refine wpList_mlen _ rfl _ 35 rfl 3 3 Try.underlying35 tb _ rfl (by exact hm6'.out) ?_))
                    have hSn := Lib.hid (show StaysIn w w6 cb (1 + a % 12) key tb (lput (1 + a % 12) ⟨gi xs j, 0, false⟩ L4) O5 (mset (gi xs j) (.int .i64 1) f4) from ⟨hC6.out, hm6'.out, mset_nodup hSx.out.nodup, hap5.out, hmine⟩)
                    have hPn := Lib.hid (show ¬ 1 + a % 12 ≤ ((mset (gi xs j) (.int .i64 1) f4).length : Int) → Present key (mkeys (mset (gi xs j) (.int .i64 1) f4)) (lput (1 + a % 12) ⟨gi xs j, 0, false⟩ L4) from fun hno => by
                      rcases present_put (s := ⟨gi xs j, 0, false⟩) (m := 1 + a % 12) hPx.out hke'.out hSx.out.cache.lru.nodup mset_keys_sub with h | h
                      · exact h
                      · rw [mkeys_length] at h; exact absurd h hno)
                    have hSx := hSn
                    clear hfull
                    have hG := Lib.hid (getX hSx.out.cache.lru key)
                    refine (hG.out).mono ?_
                    intro e w5 h3
                    obtain ⟨rfl, O6, hC6, hk6, hn6⟩ := hSx.out.cache.get h3
                    have hm6 := Lib.hid (hSx.out.met.keeps hk6 hSx.out.apart)
                    have hLe := Lib.hid (lenX hC6.lru)
                    have hle := hC6.len
                    have hdle : decide (((lfront key (lput (1 + a % 12) ⟨gi xs j, 0, false⟩ L4)).length : Int) ≤ 1 + a % 12) = true := decide_eq_true hle
                    have hKend := Lib.hid hC6.keep
                    have hfd : decide (1 + a % 12 ≤ ((mset (gi xs j) (.int .i64 1) f4).length : Int)) = true := decide_eq_true hfm
                    clear h3 hC6 hk6 hn6 hG
                    go_wp2_with fail
                    refine (hLe.out).mono ?_
                    rintro e w6 ⟨rfl, rfl⟩
                    have hrl := run_mlen (P := Try.prog) Try.underlying35 hm6.out 3
                    go_wp2_with fail
                    go_ret
                    exact ⟨rfl, hKend.out⟩
                  · have hd1 : decide (1 + a % 12 ≤ ((mset (gi xs j) (.int .i64 1) f4).length : Int)) = false := decide_eq_false hfull
                    have hm5 := Lib.hid (hSx.out.met.keeps hk5 hSx.out.apart)
                    have hap5 := Lib.hid (hn5 tb hSx.out.met.lt hSx.out.apart)
                    have hmine := hSx.out.mine
                    have hc5 := (hx'.out.keeps hC5.keep (fun _ _ _ h => h)) j hi1'
                    obtain ⟨b5, off5, hbe, hc5⟩ := hc5
                    cases hbe
                    have hC5' := Lib.hid hC5
                    clear h3 hC5 hk5 hn5 hPut hGet hc
                    go_wp2_with (first | (at_mapUpdate; refine wpList_upd _ rfl _ _ _ 35 rfl 3 3 Try.underlying35 Try.underlying3 tb f4 rfl (by exact hm5.out) _ rfl (.int .i64 1) rfl ?_; intro w6 hm6 hk6 hz6; have hC6 := Lib.hid (hC5'.out.other hk6 hmine hap5.out); have hm6' := Lib.hid hm6; clear hm6 hk6 hz6) | (at_len; refine wpList_mlen _ rfl _ 35 rfl 3 3 Try.underlying35 tb _ rfl (by exact hm6'.out) ?_))
                    have hSn := Lib.hid (show StaysIn w w6 cb (1 + a % 12) key tb (lput (1 + a % 12) ⟨gi xs j, 0, false⟩ L4) O5 (mset (gi xs j) (.int .i64 1) f4) from ⟨hC6.out, hm6'.out, mset_nodup hSx.out.nodup, hap5.out, hmine⟩)
                    have hPn := Lib.hid (show ¬ 1 + a % 12 ≤ ((mset (gi xs j) (.int .i64 1) f4).length : Int) → Present key (mkeys (mset (gi xs j) (.int .i64 1) f4)) (lput (1 + a % 12) ⟨gi xs j, 0, false⟩ L4) from fun hno => by
                      rcases present_put (s := ⟨gi xs j, 0, false⟩) (m := 1 + a % 12) hPx.out hke'.out hSx.out.cache.lru.nodup mset_keys_sub with h | h
                      · exact h
                      · rw [mkeys_length] at h; exact absurd h hno)
                    have hle := hC6.out.len
                    have hLe := Lib.hid (lenX hC6.out.lru)
                    have hd2 : decide (1 + a % 12 < ((lput (1 + a % 12) ⟨gi xs j, 0, false⟩ L4).length : Int)) = false := decide_eq_false (by omega)
                    refine (hLe.out).mono ?_
                    rintro e w7 ⟨rfl, rfl⟩
                    go_wp2_with fail
                    go_roundw
                    case rel => exact ⟨j + 1, _, O5, _, by omega, by go_num, hSn.out, hPn.out (by omega), by omega⟩
                    case measure => simp [intOf]; omega
          · have hcase2 : (j < xs.length ∧ ¬ j < 60) ∨ ¬ j < xs.length := by omega
            have hSx := Lib.hid hS
            have hPx := Lib.hid hP4
            clear hS hP4 hin
            rcases hcase2 with ⟨hi1', hi2'⟩ | hi1'
            all_goals (try (exfalso; omega))
            all_goals
              have hG := Lib.hid (getX hSx.out.cache.lru key)
              go_wp2_with fail
              refine (hG.out).mono ?_
              intro e w5 h3
              obtain ⟨rfl, O6, hC6, hk6, hn6⟩ := hSx.out.cache.get h3
              have hm6 := Lib.hid (hSx.out.met.keeps hk6 hSx.out.apart)
              have hLe := Lib.hid (lenX hC6.lru)
              have hle := hC6.len
              have hdle : decide (((lfront key (L4)).length : Int) ≤ 1 + a % 12) = true := decide_eq_true hle
              have hKend := Lib.hid hC6.keep
              have hfd : decide (1 + a % 12 ≤ (f4.length : Int)) = false := decide_eq_false (by omega)
              obtain ⟨p1, p2⟩ := present_get hPx.out hSx.out.cache.lru.nodup
              rw [p1, p2]
              clear p1 p2
              clear h3 hC6 hk6 hn6 hG
              go_wp2_with fail
              refine (hLe.out).mono ?_
              rintro e w6 ⟨rfl, rfl⟩
              have hrl := run_mlen (P := Try.prog) Try.underlying35 hm6.out 3
              go_wp2_with fail
              go_ret
              exact ⟨rfl, hKend.out⟩
end Go.Proofs.Ytnickcjkipemmaa
