/- LruMost: the plain law and the walk -/
import Derived.Test.YtnickcjkipemmaaStaysW
namespace Go.Proofs.Ytnickcjkipemmaa
open Go.RowKit

structure OpR where
  kind : Int
  key : Int
  to : Int
  val : Int
  dirty : Bool
instance : Inhabited OpR := ⟨⟨0, 0, 0, 0, false⟩⟩
structure OpAt (w : World) (b o : Nat) (r : OpR) : Prop where
  c0 : w.cell? ⟨b, o, none⟩ = some (.int .i64 r.kind)
  c1 : w.cell? ⟨b, o + 1, none⟩ = some (.int .i64 r.key)
  c2 : w.cell? ⟨b, o + 2, none⟩ = some (.int .i64 r.to)
  c3 : w.cell? ⟨b, o + 3, none⟩ = some (.int .u64 r.val)
  c4 : w.cell? ⟨b, o + 4, none⟩ = some (.bool r.dirty)
theorem OpAt.keeps {S : Nat → Prop} {w w' : World} {b o : Nat} {r : OpR} (h : OpAt w b o r) (hk : Keeps S w w') (hn : ¬ S b) : OpAt w' b o r :=
  ⟨hk.cell h.c0 hn, hk.cell h.c1 hn, hk.cell h.c2 hn, hk.cell h.c3 hn, hk.cell h.c4 hn⟩
def OpsAt (w : World) (a : Option Addr) (n : Nat) (l : Nat → OpR) : Prop := ∀ j, j < n → ∃ b off, a = some ⟨b, off, none⟩ ∧ OpAt w b (off + j * 5) (l j)
theorem OpsAt.keeps {w w' : World} {a : Option Addr} {n : Nat} {l : Nat → OpR} (h : OpsAt w a n l) (hk : Keeps Nil w w') : OpsAt w' a n l := fun j hj =>
  let ⟨b, off, h1, h2⟩ := h j hj
  ⟨b, off, h1, h2.keeps hk (fun h => h)⟩
structure OpOk (r : OpR) : Prop where
  kind : -9223372036854775808 ≤ r.kind ∧ r.kind ≤ 9223372036854775807
  key : -9223372036854775808 ≤ r.key ∧ r.key ≤ 9223372036854775807
  to : -9223372036854775808 ≤ r.to ∧ r.to ≤ 9223372036854775807
  val : 0 ≤ r.val ∧ r.val ≤ 18446744073709551615

theorem lenX' {w : World} {cb : Nat} {most : Int} {L : List Ent} {O : Nat → Prop} (h : LruX w cb most L O) :
    Calls Try.prog 17 #[.pointer (some ⟨cb, 0, none⟩)] w fun e w' => e = .returned (.int .i64 (L.length : Nat)) ∧ w' = w := (lenX h).mono fun _ _ h => ⟨h.1, h.2.symm⟩

/-- the head is the key -/
def HeadIs (k : Int) (L : List Ent) : Prop := 0 < L.length ∧ (L.getD 0 ent0).key = k
theorem lput_head {m : Int} {e : Ent} {L : List Ent} : HeadIs e.key (lput m e L) := by
  unfold lput
  cases hg : lget e.key L with
  | some x => exact ⟨by simp, rfl⟩
  | none =>
    simp only
    split
    · exact ⟨by simp, rfl⟩
    · exact ⟨by simp, rfl⟩
theorem lfront_head {k : Int} {L : List Ent} (h : lhas k L = true) : HeadIs k (lfront k L) := by
  unfold lhas at h
  unfold lfront
  cases hg : lget k L with
  | none => rw [hg] at h; cases h
  | some e => exact ⟨by simp, lget_has hg⟩

/-- the keys so far are in the map, each once -/
structure MetIn (wo wx : World) (tb : Nat) (K : List Int) (k : Nat) (f : List (Int × Value)) : Prop where
  at' : MapAt wx tb f
  keys : mkeys f = K.take k
  keep : Keeps (· = tb) wo wx
theorem take_snoc' {α : Type} (l : List α) (k : Nat) (h : k < l.length) : l.take (k + 1) = l.take k ++ [l[k]] := by
  rw [List.take_succ_eq_append_getElem h]
theorem MetIn.step {wo wx w' : World} {tb : Nat} {K : List Int} {k : Nat} {f : List (Int × Value)} (h : MetIn wo wx tb K k f) (hnd : K.Nodup) (hk : k < K.length) {v : Value} (hm : MapAt w' tb (mset K[k] v f)) (hk2 : Keeps (· = tb) wx w') : MetIn wo w' tb K (k + 1) (mset K[k] v f) := by
  refine ⟨hm, ?_, h.keep.trans hk2⟩
  have hn : K[k] ∉ mkeys f := by
    rw [h.keys]
    intro hmem
    have h1 := take_snoc' K k hk
    have h2 : (K.take (k + 1)).Nodup := hnd.sublist (List.take_sublist _ _)
    rw [h1, List.nodup_append] at h2
    exact h2.2.2 _ hmem K[k] (by simp) rfl
  rw [mset_new hn]
  have hkeys := h.keys
  unfold mkeys at hkeys ⊢
  rw [List.map_append, hkeys, take_snoc' K k hk]; rfl
theorem MetIn.step' {wo wx w' : World} {tb : Nat} {K : List Int} {k : Nat} {f : List (Int × Value)} {kq : Int} (h : MetIn wo wx tb K k f) (hnd : K.Nodup) (hk : K[k]? = some kq) {v : Value} (hm : MapAt w' tb (mset kq v f)) (hk2 : Keeps (· = tb) wx w') : MetIn wo w' tb K (k + 1) (mset kq v f) := by
  obtain ⟨hlt, rfl⟩ := List.getElem?_eq_some_iff.1 hk
  exact h.step hnd hlt hm hk2
theorem MetIn.len {wo wx : World} {tb : Nat} {K : List Int} {f : List (Int × Value)} (h : MetIn wo wx tb K K.length f) : f.length = K.length := by
  have := congrArg List.length h.keys
  rw [mkeys_length, List.length_take] at this
  omega

set_option maxHeartbeats 8000000 in
set_option maxRecDepth 100000 in
theorem most_any (most : Int) (ax : Option Addr) (n capx : Nat) (l : Nat → OpR) (w : World) (h0 : -9223372036854775808 ≤ most) (h1 : most ≤ 9223372036854775807) (hx : OpsAt w ax n l) (hok : ∀ j, j < n → OpOk (l j)) (hmx : n ≤ maxLen) :
    Calls Try.prog 5 #[.int .i64 most, .slice ax n capx] w fun e w' => e = .returned (.bool true) ∧ Keeps Nil w w' := by
  obtain ⟨a, ha⟩ : ∃ a, absI most = a := ⟨_, rfl⟩
  have ha0 : 0 ≤ a := by rw [← ha]; exact absI_nonneg _
  have hA := Lib.hid (fun W => abs_val most a W h0 h1 ha)
  have ham : 0 ≤ a % 10 := by omega
  have ham2 : a % 10 ≤ 9 := by omega
  have hmx2 : n ≤ 9223372036854775807 := by unfold maxLen at hmx; omega
  have hx' := Lib.hid hx
  have hok' := Lib.hid hok
  have hmk := @run_makeMap Try.prog
  clear ha h0 h1 hx hok hmx
  go_enter Try.func5, Try.ntmps5
  go_wp2_with fail
  refine (awake_any w).mono ?_
  rintro e w1 ⟨rfl, hk1⟩
  have hk1' := Lib.hid hk1
  clear hk1
  go_wp2_with fail
  refine (hA.out _).mono ?_
  rintro e w2 ⟨rfl, rfl⟩
  go_wp2_with fail
  refine (newX (1 + a % 10) w1 (by omega)).mono ?_
  rintro e w2 ⟨cb, O, rfl, hL, hK, hO⟩
  have hC0 := Lib.hid (show CacheIn w w2 cb (1 + a % 10) [] O from ⟨hL, by simp; omega, hk1'.out.trans hK, fun k hk => by have := hO k hk; have := hk1'.out.size; omega⟩)
  clear hL hK hO hk1' hA
  go_wp2_with fail
  go_loopw [8, 9, 10, 11, 12, 13] (fun i o y v t z wr => ∃ (k : Nat) (L : List Ent) (O : Nat → Prop), k ≤ 80 ∧ i = .int .i64 k ∧ CacheIn w wr cb (1 + a % 10) L O) (fun i _ _ _ _ _ _ => 80 - (intOf i).toNat)
  case atStart => exact ⟨0, [], O, by omega, rfl, hC0.out⟩
  case round =>
    obtain ⟨i, L, O2, hi, rfl, hC⟩ := hrel
    by_cases hin : i < n ∧ i < 80
    · obtain ⟨hi1, hi2⟩ := hin
      obtain ⟨b, off, rfl, c0, c1, c2, c3, c4⟩ := (hx'.out.keeps hC.keep) i hi1
      obtain ⟨kd, hkd⟩ : ∃ kd, absI (l i).kind = kd := ⟨_, rfl⟩
      have hkd0 : 0 ≤ kd := by rw [← hkd]; exact absI_nonneg _
      have hKd := Lib.hid (fun W => abs_val (l i).kind kd W (hok'.out i hi1).kind.1 (hok'.out i hi1).kind.2 hkd)
      have hC1 := hC.nil ((Keeps.refl Nil wr).alloc (.cells #[.int .i64 (l i).kind, .int .i64 (l i).key, .int .i64 (l i).to, .int .u64 (l i).val, .bool (l i).dirty] 44))
      have hbo := Lib.hid (heap_alloc_new wr (.cells #[.int .i64 (l i).kind, .int .i64 (l i).key, .int .i64 (l i).to, .int .u64 (l i).val, .bool (l i).dirty] 44))
      have hno := Lib.hid (show ¬ O2 wr.heap.size from fun ho => by have := hC.lru.lt ho; omega)
      have hGet := Lib.hid (getX hC1.lru (l i).key)
      have hPut := Lib.hid (putX' hC1.lru ⟨(l i).key, (l i).val, (l i).dirty⟩ hC1.len (by omega))
      have hC' := Lib.hid hC1
      clear hC hC1 hkd
      by_cases hk3 : kd % 3 = 0
      · have e1 : (kd % 3 == 0) = true := by simpa using hk3
        clear hk3
        cases hhas : lhas (l i).key L
        · have hfr := Lib.hid (lfront_absent hhas)
          have hhas' := Lib.hid hhas
          clear hhas
          go_wp2_with fail
          refine (hKd.out _).mono ?_
          rintro e w3 ⟨rfl, rfl⟩
          go_wp2_with fail
          refine (hGet.out).mono ?_
          rw [hhas'.out, hfr.out]
          intro e w5 h3
          obtain ⟨rfl, O5, hC5, hk5, hn5⟩ := hC'.out.same h3
          have hb5 := Lib.hid (hk5.heap hbo.out hno.out)
          have hnd5 := Lib.hid hC5.lru.nodup
          have hle5 := hC5.len
          obtain ⟨L5, hL5⟩ : ∃ L5, L = L5 := ⟨_, rfl⟩
          rw [hL5] at hC5 hnd5 hle5
          have hAll := Lib.hid (allX hC5.lru (by omega))
          have hC5' := Lib.hid hC5
          have hL5' := Lib.hid hL5
          clear h3 hC5 hk5 hn5 hGet hPut hL5 c0 c1 c2 c3 c4
          go_wp2_with fail
          refine (hAll.out).mono ?_
          rintro e w6 ⟨v, rfl, a6, cap6, rfl, hr6, hk6, hge6⟩
          have hC6 := Lib.hid (hC5'.out.nil hk6)
          have hr6' := Lib.hid hr6
          have ho1 : w6.cell? ⟨wr.heap.size, 1, none⟩ = some (.int .i64 (l i).key) := cell_of_heap (hk6.heap hb5.out (fun h => h)) 1
          have hd1 : decide (1 + a % 10 < (L5.length : Int)) = false := decide_eq_false (by omega)
          have hd2 : (L5.length == L5.length) = true := by simp
          have hd2' : (L5.length != L5.length) = false := by simp
          have hge6' := Lib.hid hge6
          clear hr6 hk6 hge6
          go_wp2_with fail
          go_quiet ((go_at_call 17; exact Calls.quiet_of_same (lenX' (hC6.out.nil ((Keeps.refl Nil w6).drewN _)).lru)))
          go_wp2_with fail
          obtain ⟨tb, htb⟩ : ∃ tb : Nat, tb = w6.heap.size := ⟨_, rfl⟩
          obtain ⟨wo, hwo⟩ : ∃ wo : World, wo = (w6.drewN nq).alloc (.map #[] 0) := ⟨_, rfl⟩
          have hM0 := Lib.hid (show MetIn wo wo tb (L5.map (·.key)) 0 [] from ⟨by rw [hwo, htb]; exact MapAt.made (w6.drewN nq), rfl, Keeps.refl _ _⟩)
          have hKo : Keeps Nil w6 wo := by rw [hwo]; exact ((Keeps.refl Nil w6).drewN nq).alloc _
          have hCo := Lib.hid (hC6.out.nil hKo)
          have hro := Lib.hid (hr6'.out.keeps hKo (fun _ _ h => h))
          have hnt := Lib.hid (show ¬ O5 tb from fun ho => by have := hC6.out.lru.lt ho; omega)
          have hnr := Lib.hid (show ∀ g, blk a6 = some g → ¬ g = tb from fun g hg e => by have := hr6'.out.lt hg; omega)
          have hmt := Lib.hid (show w.heap.size ≤ tb by rw [htb]; exact hC6.out.keep.size)
          rw [← hwo]
          rw [← htb]
          clear htb hwo hKo ho1 hC6 hr6'
          go_loopw [13] (fun z wx => ∃ (k : Nat) (f : List (Int × Value)), k ≤ L5.length ∧ z = .int .i64 k ∧ MetIn wo wx tb (L5.map (·.key)) k f) (fun z _ => L5.length - (intOf z).toNat)
          case atStart => exact ⟨0, [], Nat.zero_le _, rfl, hM0.out⟩
          case round =>
            obtain ⟨q, f, hq, rfl, hM⟩ := hrel
            by_cases hlt : q < L5.length
            · obtain ⟨gq, hgq, hent⟩ := EntRow.at' (hro.out.keeps hM.keep hnr.out) hlt
              subst hgq
              obtain ⟨kq, hkq0⟩ : ∃ kq, (L5.getD q ent0).key = kq := ⟨_, rfl⟩
              have hkq := hent.key
              rw [hkq0] at hkq
              have hgk := Lib.hid (show (L5.map (·.key))[q]? = some kq by rw [← hkq0]; simp [List.getD, hlt])
              clear hkq0
              have hM' := Lib.hid hM
              clear hent hM
              go_wp2_with (at_mapUpdate; refine wpList_upd _ rfl _ _ _ 35 rfl 3 3 Try.underlying35 Try.underlying3 tb f rfl (by exact hM'.out.at') _ rfl (.int .i64 1) rfl ?_; intro w8 hm8 hk8 hz8)
              have hM8 := hM'.out.step' hnd5.out hgk.out hm8 hk8
              have hM8' := Lib.hid hM8
              clear hm8 hk8 hz8 hM8
              go_roundw
              case rel => exact ⟨q + 1, _, by omega, by go_num, hM8'.out⟩
              case measure => simp [intOf]; omega
            · obtain rfl : q = L5.length := by omega
              have hfl := Lib.hid (show f.length = L5.length by have := MetIn.len (K := L5.map (·.key)) (by simpa using hM); simpa using this)
              have hC8 := Lib.hid (hCo.out.other hM.keep hmt.out hnt.out)
              have hM' := Lib.hid hM
              clear hM
              go_wp2_with (at_len; refine wpList_mlen _ rfl _ 35 rfl 3 3 Try.underlying35 tb f rfl (by exact hM'.out.at') ?_; rw [hfl.out])
              go_roundw
              case rel => exact ⟨i + 1, L5, O5, by omega, by go_num, hC8.out⟩
              case measure => simp [intOf]; omega
        · have hhas' := Lib.hid hhas
          have hhead := Lib.hid (lfront_head hhas)
          clear hhas
          go_wp2_with fail
          refine (hKd.out _).mono ?_
          rintro e w3 ⟨rfl, rfl⟩
          go_wp2_with fail
          refine (hGet.out).mono ?_
          rw [hhas'.out]
          intro e w5 h3
          obtain ⟨rfl, O5, hC5, hk5, hn5⟩ := hC'.out.get h3
          have hb5 := Lib.hid (hk5.heap hbo.out hno.out)
          have hnd5 := Lib.hid hC5.lru.nodup
          have hle5 := hC5.len
          obtain ⟨L5, hL5⟩ : ∃ L5, lfront (l i).key L = L5 := ⟨_, rfl⟩
          rw [hL5] at hC5 hnd5 hle5
          have hhd := hhead.out
          rw [hL5] at hhd
          have hhd' := Lib.hid hhd
          clear hhd
          have hAll := Lib.hid (allX hC5.lru (by omega))
          have hC5' := Lib.hid hC5
          have hL5' := Lib.hid hL5
          clear h3 hC5 hk5 hn5 hGet hPut hL5 c0 c1 c2 c3 c4
          go_wp2_with fail
          refine (hAll.out).mono ?_
          rintro e w6 ⟨v, rfl, a6, cap6, rfl, hr6, hk6, hge6⟩
          have hC6 := Lib.hid (hC5'.out.nil hk6)
          have hr6' := Lib.hid hr6
          have ho1 : w6.cell? ⟨wr.heap.size, 1, none⟩ = some (.int .i64 (l i).key) := cell_of_heap (hk6.heap hb5.out (fun h => h)) 1
          have hd1 : decide (1 + a % 10 < (L5.length : Int)) = false := decide_eq_false (by omega)
          have hd2 : (L5.length == L5.length) = true := by simp
          have hd2' : (L5.length != L5.length) = false := by simp
          have hpos := hhd'.out.1
          have hd3 : (L5.length == 0) = false := by simp; intro h; rw [h] at hpos; simp at hpos
          have hd5 : ((L5.length : Int) == 0) = false := by simp; intro h; rw [h] at hpos; simp at hpos
          have hd6 : L5.isEmpty = false := by cases L5 with | nil => simp at hpos | cons x y => rfl
          obtain ⟨g6, rfl, hent⟩ := hr6.at' hhd'.out.1
          have hkc : w6.cell? ⟨g6, 0, none⟩ = some (.int .i64 (l i).key) := by have := hent.key; rw [hhd'.out.2, Nat.zero_mul] at this; exact this
          have hd4 : ((l i).key == (l i).key) = true := by simp
          have hd4' : ((l i).key != (l i).key) = false := by simp
          clear hent
          have hge6' := Lib.hid hge6
          clear hr6 hk6 hge6
          go_wp2_with fail
          go_quiet ((go_at_call 17; exact Calls.quiet_of_same (lenX' (hC6.out.nil ((Keeps.refl Nil w6).drewN _)).lru)))
          go_wp2_with fail
          obtain ⟨tb, htb⟩ : ∃ tb : Nat, tb = w6.heap.size := ⟨_, rfl⟩
          obtain ⟨wo, hwo⟩ : ∃ wo : World, wo = (w6.drewN nq).alloc (.map #[] 0) := ⟨_, rfl⟩
          have hM0 := Lib.hid (show MetIn wo wo tb (L5.map (·.key)) 0 [] from ⟨by rw [hwo, htb]; exact MapAt.made (w6.drewN nq), rfl, Keeps.refl _ _⟩)
          have hKo : Keeps Nil w6 wo := by rw [hwo]; exact ((Keeps.refl Nil w6).drewN nq).alloc _
          have hCo := Lib.hid (hC6.out.nil hKo)
          have hro := Lib.hid (hr6'.out.keeps hKo (fun _ _ h => h))
          have hnt := Lib.hid (show ¬ O5 tb from fun ho => by have := hC6.out.lru.lt ho; omega)
          have hnr := Lib.hid (show ∀ g, blk (some ⟨g6, 0, none⟩) = some g → ¬ g = tb from fun g hg e => by have := hr6'.out.lt hg; omega)
          have hmt := Lib.hid (show w.heap.size ≤ tb by rw [htb]; exact hC6.out.keep.size)
          rw [← hwo]
          rw [← htb]
          clear htb hwo hKo ho1 hC6 hr6' hkc
          go_loopw [13] (fun z wx => ∃ (k : Nat) (f : List (Int × Value)), k ≤ L5.length ∧ z = .int .i64 k ∧ MetIn wo wx tb (L5.map (·.key)) k f) (fun z _ => L5.length - (intOf z).toNat)
          case atStart => exact ⟨0, [], Nat.zero_le _, rfl, hM0.out⟩
          case round =>
            obtain ⟨q, f, hq, rfl, hM⟩ := hrel
            by_cases hlt : q < L5.length
            · obtain ⟨gq, hgq, hent⟩ := EntRow.at' (hro.out.keeps hM.keep hnr.out) hlt
              cases hgq
              obtain ⟨kq, hkq0⟩ : ∃ kq, (L5.getD q ent0).key = kq := ⟨_, rfl⟩
              have hkq := hent.key
              rw [hkq0] at hkq
              have hgk := Lib.hid (show (L5.map (·.key))[q]? = some kq by rw [← hkq0]; simp [List.getD, hlt])
              clear hkq0
              have hM' := Lib.hid hM
              clear hent hM
              go_wp2_with (at_mapUpdate; refine wpList_upd _ rfl _ _ _ 35 rfl 3 3 Try.underlying35 Try.underlying3 tb f rfl (by exact hM'.out.at') _ rfl (.int .i64 1) rfl ?_; intro w8 hm8 hk8 hz8)
              have hM8 := hM'.out.step' hnd5.out hgk.out hm8 hk8
              have hM8' := Lib.hid hM8
              clear hm8 hk8 hz8 hM8
              go_roundw
              case rel => exact ⟨q + 1, _, by omega, by go_num, hM8'.out⟩
              case measure => simp [intOf]; omega
            · obtain rfl : q = L5.length := by omega
              have hfl := Lib.hid (show f.length = L5.length by have := MetIn.len (K := L5.map (·.key)) (by simpa using hM); simpa using this)
              have hC8 := Lib.hid (hCo.out.other hM.keep hmt.out hnt.out)
              have hM' := Lib.hid hM
              clear hM
              go_wp2_with (at_len; refine wpList_mlen _ rfl _ 35 rfl 3 3 Try.underlying35 tb f rfl (by exact hM'.out.at') ?_; rw [hfl.out])
              go_roundw
              case rel => exact ⟨i + 1, L5, O5, by omega, by go_num, hC8.out⟩
              case measure => simp [intOf]; omega
      · have e1 : (kd % 3 == 0) = false := by simpa using hk3
        clear hk3
        have hhead := Lib.hid (lput_head (m := 1 + a % 10) (e := ⟨(l i).key, (l i).val, (l i).dirty⟩) (L := L))
        go_wp2_with fail
        refine (hKd.out _).mono ?_
        rintro e w3 ⟨rfl, rfl⟩
        go_wp2_with fail
        refine (hPut.out).mono ?_
        intro e w5 h3
        obtain ⟨rfl, O5, hC5, hk5, hn5⟩ := hC'.out.put (by omega) h3
        have hb5 := Lib.hid (hk5.heap hbo.out hno.out)
        have hnd5 := Lib.hid hC5.lru.nodup
        have hle5 := hC5.len
        obtain ⟨L5, hL5⟩ : ∃ L5, lput (1 + a % 10) ⟨(l i).key, (l i).val, (l i).dirty⟩ L = L5 := ⟨_, rfl⟩
        rw [hL5] at hC5 hnd5 hle5
        have hhd := hhead.out
        rw [hL5] at hhd
        have hhd' := Lib.hid hhd
        clear hhd
        have hAll := Lib.hid (allX hC5.lru (by omega))
        have hC5' := Lib.hid hC5
        have hL5' := Lib.hid hL5
        clear h3 hC5 hk5 hn5 hGet hPut hL5 c0 c1 c2 c3 c4
        go_wp2_with fail
        refine (hAll.out).mono ?_
        rintro e w6 ⟨v, rfl, a6, cap6, rfl, hr6, hk6, hge6⟩
        have hC6 := Lib.hid (hC5'.out.nil hk6)
        have hr6' := Lib.hid hr6
        have ho1 : w6.cell? ⟨wr.heap.size, 1, none⟩ = some (.int .i64 (l i).key) := cell_of_heap (hk6.heap hb5.out (fun h => h)) 1
        have hd1 : decide (1 + a % 10 < (L5.length : Int)) = false := decide_eq_false (by omega)
        have hd2 : (L5.length == L5.length) = true := by simp
        have hd2' : (L5.length != L5.length) = false := by simp
        have hpos := hhd'.out.1
        have hd3 : (L5.length == 0) = false := by simp; intro h; rw [h] at hpos; simp at hpos
        have hd5 : ((L5.length : Int) == 0) = false := by simp; intro h; rw [h] at hpos; simp at hpos
        have hd6 : L5.isEmpty = false := by cases L5 with | nil => simp at hpos | cons x y => rfl
        obtain ⟨g6, rfl, hent⟩ := hr6.at' hhd'.out.1
        have hkc : w6.cell? ⟨g6, 0, none⟩ = some (.int .i64 (l i).key) := by have := hent.key; rw [hhd'.out.2, Nat.zero_mul] at this; exact this
        have hd4 : ((l i).key == (l i).key) = true := by simp
        have hd4' : ((l i).key != (l i).key) = false := by simp
        clear hent
        have hge6' := Lib.hid hge6
        clear hr6 hk6 hge6
        go_wp2_with fail
        go_quiet ((go_at_call 17; exact Calls.quiet_of_same (lenX' (hC6.out.nil ((Keeps.refl Nil w6).drewN _)).lru)))
        go_wp2_with fail
        obtain ⟨tb, htb⟩ : ∃ tb : Nat, tb = w6.heap.size := ⟨_, rfl⟩
        obtain ⟨wo, hwo⟩ : ∃ wo : World, wo = (w6.drewN nq).alloc (.map #[] 0) := ⟨_, rfl⟩
        have hM0 := Lib.hid (show MetIn wo wo tb (L5.map (·.key)) 0 [] from ⟨by rw [hwo, htb]; exact MapAt.made (w6.drewN nq), rfl, Keeps.refl _ _⟩)
        have hKo : Keeps Nil w6 wo := by rw [hwo]; exact ((Keeps.refl Nil w6).drewN nq).alloc _
        have hCo := Lib.hid (hC6.out.nil hKo)
        have hro := Lib.hid (hr6'.out.keeps hKo (fun _ _ h => h))
        have hnt := Lib.hid (show ¬ O5 tb from fun ho => by have := hC6.out.lru.lt ho; omega)
        have hnr := Lib.hid (show ∀ g, blk (some ⟨g6, 0, none⟩) = some g → ¬ g = tb from fun g hg e => by have := hr6'.out.lt hg; omega)
        have hmt := Lib.hid (show w.heap.size ≤ tb by rw [htb]; exact hC6.out.keep.size)
        rw [← hwo]
        rw [← htb]
        clear htb hwo hKo ho1 hC6 hr6' hkc
        go_loopw [13] (fun z wx => ∃ (k : Nat) (f : List (Int × Value)), k ≤ L5.length ∧ z = .int .i64 k ∧ MetIn wo wx tb (L5.map (·.key)) k f) (fun z _ => L5.length - (intOf z).toNat)
        case atStart => exact ⟨0, [], Nat.zero_le _, rfl, hM0.out⟩
        case round =>
          obtain ⟨q, f, hq, rfl, hM⟩ := hrel
          by_cases hlt : q < L5.length
          · obtain ⟨gq, hgq, hent⟩ := EntRow.at' (hro.out.keeps hM.keep hnr.out) hlt
            cases hgq
            obtain ⟨kq, hkq0⟩ : ∃ kq, (L5.getD q ent0).key = kq := ⟨_, rfl⟩
            have hkq := hent.key
            rw [hkq0] at hkq
            have hgk := Lib.hid (show (L5.map (·.key))[q]? = some kq by rw [← hkq0]; simp [List.getD, hlt])
            clear hkq0
            have hM' := Lib.hid hM
            clear hent hM
            go_wp2_with (at_mapUpdate; refine wpList_upd _ rfl _ _ _ 35 rfl 3 3 Try.underlying35 Try.underlying3 tb f rfl (by exact hM'.out.at') _ rfl (.int .i64 1) rfl ?_; intro w8 hm8 hk8 hz8)
            have hM8 := hM'.out.step' hnd5.out hgk.out hm8 hk8
            have hM8' := Lib.hid hM8
            clear hm8 hk8 hz8 hM8
            go_roundw
            case rel => exact ⟨q + 1, _, by omega, by go_num, hM8'.out⟩
            case measure => simp [intOf]; omega
          · obtain rfl : q = L5.length := by omega
            have hfl := Lib.hid (show f.length = L5.length by have := MetIn.len (K := L5.map (·.key)) (by simpa using hM); simpa using this)
            have hC8 := Lib.hid (hCo.out.other hM.keep hmt.out hnt.out)
            have hM' := Lib.hid hM
            clear hM
            go_wp2_with (at_len; refine wpList_mlen _ rfl _ 35 rfl 3 3 Try.underlying35 tb f rfl (by exact hM'.out.at') ?_; rw [hfl.out])
            go_roundw
            case rel => exact ⟨i + 1, L5, O5, by omega, by go_num, hC8.out⟩
            case measure => simp [intOf]; omega
    · have hcase : (i < n ∧ ¬ i < 80) ∨ ¬ i < n := by omega
      have hK := Lib.hid hC.keep
      clear hC hin
      rcases hcase with ⟨hi1, hi2⟩ | hi1
      all_goals
        go_wp2_with fail
        go_ret
        exact ⟨rfl, hK.out⟩
end Go.Proofs.Ytnickcjkipemmaa
