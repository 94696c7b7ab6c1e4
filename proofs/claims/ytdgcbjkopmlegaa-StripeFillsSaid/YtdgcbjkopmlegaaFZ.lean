/- stripe: join, of a leaf that lies elsewhere: the walk -/
import Derived.Test.YtdgcbjkopmlegaaN
namespace Go.Proofs.Ytdgcbjkopmlegaa
open Go.RowKit

attribute [local go_sem ↓] Go.wp_at_zero Go.wp_at_succ

/-- a leaf that is read, and it lies in Z -/
structure LfIn (w : World) (sa ba : Option Addr) (x : Lf) (Z : Nat → Prop) : Prop where
  sl : ∀ i (_ : i < x.sl.length), ∃ b off, sa = some ⟨b, off, none⟩ ∧ Z b ∧ w.cell? ⟨b, off + i * 3, none⟩ = some (.int .u32 x.sl[i].key) ∧ w.cell? ⟨b, off + i * 3 + 1, none⟩ = some (.int .i64 x.sl[i].st) ∧ w.cell? ⟨b, off + i * 3 + 2, none⟩ = some (.int .u64 x.sl[i].seq)
  se : ∀ i (_ : i < x.se.length), ∃ b off a' cap', ba = some ⟨b, off, none⟩ ∧ Z b ∧ w.cell? ⟨b, off + i, none⟩ = some (.slice a' x.se[i].length cap') ∧ NumsAt .u8 w a' x.se[i] ∧ (0 < x.se[i].length → ∀ g, blk a' = some g → Z g)
theorem cell_spoilt {w : World} {b o : Nat} {v : Value} (h : w.cell? ⟨b, o, none⟩ = some v) : (w.setCell ⟨b, o, none⟩ (.bool true)).cell? ⟨b, o, none⟩ = some (.bool true) := by
  unfold World.cell? at h
  cases hb : w.heap[b]? with
  | none => simp [hb] at h
  | some ob =>
    cases ob with
    | cells c t f =>
      have h2 := cell_of_heap (heap_setCell_same hb o (.bool true)) o
      rw [h2]
      have ho : o < c.size := by
        simp [hb] at h
        exact (Array.getElem?_eq_some_iff.1 h).1
      simp [ho]
    | _ => simp [hb] at h
theorem LfZ.mem {w : World} {sa ba : Option Addr} {x : Lf} {Z : Nat → Prop} (h : LfZ w sa ba x Z) : LfIn w sa ba x Z := by
  have spoil : ∀ (b o : Nat) (v : Value), w.cell? ⟨b, o, none⟩ = some v → ¬ Z b → LfAt (w.setCell ⟨b, o, none⟩ (.bool true)) sa ba x ∧ (w.setCell ⟨b, o, none⟩ (.bool true)).cell? ⟨b, o, none⟩ = some (.bool true) := fun b o v hv hz =>
    ⟨h (· = b) _ ((Keeps.refl (· = b) w).setCell (.inl rfl) _) (fun k hk e => hz (e ▸ hk)), cell_spoilt hv⟩
  refine ⟨fun i hi => ?_, fun i hi => ?_⟩
  · obtain ⟨b, off, ha, h1, h2, h3⟩ := h.at.sl i hi
    refine ⟨b, off, ha, ?_, h1, h2, h3⟩
    refine Classical.byContradiction fun hz => ?_
    obtain ⟨g1, g2⟩ := spoil b _ _ h1 hz
    obtain ⟨b', off', ha', k1, _⟩ := g1.sl i hi
    rw [ha] at ha'; cases ha'
    rw [g2] at k1; cases k1
  · obtain ⟨b, off, a', c', ha, h1, h2⟩ := h.at.se i hi
    have hzb : Z b := by
      refine Classical.byContradiction fun hz => ?_
      obtain ⟨g1, g2⟩ := spoil b _ _ h1 hz
      obtain ⟨b', off', a'', c'', ha', k1, _⟩ := g1.se i hi
      rw [ha] at ha'; cases ha'
      rw [g2] at k1; cases k1
    refine ⟨b, off, a', c', ha, hzb, h1, h2, fun hp g hg => ?_⟩
    refine Classical.byContradiction fun hz => ?_
    obtain ⟨b2, o2, e2, h3⟩ := h2 0 hp
    rw [e2] at hg
    have hgb : b2 = g := by simpa [blk] using hg
    subst hgb
    obtain ⟨g1, g2⟩ := spoil b2 _ _ h3 hz
    obtain ⟨b', off', a'', c'', ha', k1, k2⟩ := g1.se i hi
    rw [ha] at ha'; cases ha'
    have hne : b ≠ b2 := fun e => hz (e ▸ hzb)
    have k3 := ((Keeps.refl (· = b2) w).setCell (p := ⟨b2, o2 + 0, none⟩) (.inl rfl) (.bool true)).cell h1 hne
    rw [k1] at k3
    cases k3
    obtain ⟨b3, o3, e3, h4⟩ := k2 0 hp
    rw [e2] at e3; cases e3
    rw [g2] at h4; cases h4
theorem LfIn.keeps {w w' : World} {sa ba : Option Addr} {x : Lf} {Z T : Nat → Prop} (h : LfIn w sa ba x Z) (hk : Keeps T w w') (hn : ∀ k, Z k → ¬ T k) : LfIn w' sa ba x Z := by
  refine ⟨fun i hi => ?_, fun i hi => ?_⟩
  · obtain ⟨b, off, ha, hz, h1, h2, h3⟩ := h.sl i hi
    exact ⟨b, off, ha, hz, hk.cell h1 (hn b hz), hk.cell h2 (hn b hz), hk.cell h3 (hn b hz)⟩
  · obtain ⟨b, off, a', c', ha, hz, h1, h2, h3⟩ := h.se i hi
    exact ⟨b, off, a', c', ha, hz, hk.cell h1 (hn b hz), (fun j hj => (h2.keeps hk (fun g hg => hn g (h3 (by omega) g hg))) j hj), h3⟩
theorem LfIn.at {w : World} {sa ba : Option Addr} {x : Lf} {Z : Nat → Prop} (h : LfIn w sa ba x Z) : LfAt w sa ba x :=
  ⟨fun i hi => let ⟨b, off, ha, _, h1, h2, h3⟩ := h.sl i hi; ⟨b, off, ha, h1, h2, h3⟩, fun i hi => let ⟨b, off, a', c', ha, _, h1, h2, _⟩ := h.se i hi; ⟨b, off, a', c', ha, h1, h2⟩⟩

set_option maxHeartbeats 8000000 in
set_option maxRecDepth 100000 in
theorem join26z {w : World} {Z : Nat → Prop} {tb fo sg bg S n sc bc : Nat} {ds : List Nat} {sa ba : Option Addr} {y x : Lf} (hT0 : w.cell? ⟨tb, fo, none⟩ = some (.slice (some ⟨sg, 0, none⟩) n n)) (hT1 : w.cell? ⟨tb, fo + 1, none⟩ = some (.slice (some ⟨bg, 0, none⟩) n n))
    (hY : OwnLf w S sg bg ds y) (hyn : y.sl.length = n) (hX : LfIn w sa ba x Z) (hxn : x.sl.length = n) (hxm : x.se.length = n) (hxl : ∀ i (_ : i < x.se.length), x.se[i].length ≤ S) (hob : ∀ k, lown sg bg ds k → ¬ Z k)
    (htb : ¬ lown sg bg ds tb) (hS : S ≤ 1000000) (hn : n ≤ 1000000) :
    Calls Try.prog 26 #[.pointer (some ⟨tb, fo, none⟩), .agg #[.slice sa n sc, .slice ba n bc]] w fun e w' => e = .returned (.tuple #[]) ∧ OwnLf w' S sg bg ds (joinLf y x) ∧ Keeps (lown sg bg ds) w w' := by
  have hY' := Lib.hid hY
  have hX' := Lib.hid hX
  have hxn' := Lib.hid hxn
  have hxm' := Lib.hid hxm
  have hyn' := Lib.hid hyn
  have hxl' := Lib.hid hxl
  have hob' := Lib.hid hob
  have htb' := Lib.hid htb
  have htl := lt_of_cell hT0
  have hT0' := Lib.hid hT0
  have hT1' := Lib.hid hT1
  have hlt' := Lib.hid (fun (j : Nat) (h : lown sg bg ds j) => hY.lt h)
  clear hY hX hxn hxm hyn hxl hob htb
  go_enter Try.func26, Try.ntmps26
  go_wp2_with fail
  go_loopw [4, 5, 6, 7, 8, 9, 13] (fun _ _ _ _ _ _ c wx => ∃ q : Nat, q ≤ n ∧ c = .int .i64 q ∧ OwnLf wx S sg bg ds (joinUp y x q) ∧ Keeps (lown sg bg ds) w wx ∧ wx.heap[w.heap.size]? = some (.cells #[.slice sa n sc, .slice ba n bc] 35)) (fun _ _ _ _ _ _ c _ => n - (intOf c).toNat)
  case atStart => exact ⟨0, Nat.zero_le _, rfl, by rw [joinUp_zero]; exact hY'.out.nil ((Keeps.refl Nil w).alloc _), (Keeps.refl _ w).alloc _, heap_alloc_new w _⟩
  case round =>
    obtain ⟨q, hq, rfl, hO, hK, hB⟩ := hrel
    have hO' := Lib.hid hO
    have hK' := Lib.hid hK
    have hB' := Lib.hid hB
    by_cases hlt : q < n
    · have hqx : q < x.sl.length := by rw [hxn'.out]; exact hlt
      have hqy : q < y.sl.length := by rw [hyn'.out]; exact hlt
      have hqm : q < x.se.length := by rw [hxm'.out]; exact hlt
      have hqz : q < y.se.length := by rw [hY'.out.n2, hyn'.out]; exact hlt
      have hqd : q < ds.length := by rw [hY'.out.n1, hyn'.out]; exact hlt
      have hZn := Lib.hid (fun (k : Nat) (hz : Z k) (hl : lown sg bg ds k) => hob'.out k hl hz)
      obtain ⟨xb, xo, rfl, hxz, x0w, x1w, x2w⟩ := hX'.out.sl q hqx
      have x0 := hK.cell x0w (hZn.out _ hxz)
      have x1 := hK.cell x1w (hZn.out _ hxz)
      have x2 := hK.cell x2w (hZn.out _ hxz)
      obtain ⟨zb, zo, ra, rcap, rfl, hzz, z0w, hnnw, hgz⟩ := hX'.out.se q hqm
      have z0 := hK.cell z0w (hZn.out _ hzz)
      have hrow := Lib.hid (show ∀ W, Keeps (lown sg bg ds) w W → NumsAt .u8 W ra x.se[q] from fun W hW j hj => by
        exact (hnnw.keeps hW (fun g hg => hZn.out g (hgz (by omega) g hg))) j hj)
      have hzc := Lib.hid (show ∀ W, Keeps (lown sg bg ds) w W → W.cell? ⟨zb, zo + q, none⟩ = some (.slice ra x.se[q].length rcap) from fun W hW => hW.cell z0w (hZn.out _ hzz))
      have hrd := Lib.hid (show ∀ g, blk ra = some g → 0 < x.se[q].length → Z g from fun g hg hp => hgz hp g hg)
      have hzz' := Lib.hid hzz
      clear hgz hnnw x0w x1w x2w z0w hxz hzz
      have t0 := hK.cell hT0'.out htb'.out
      have t1 := hK.cell hT1'.out htb'.out
      have hBn : ¬ lown sg bg ds w.heap.size := lown_ne hlt'.out (Nat.le_refl _)
      have b0 := cell_of_heap hB 0
      have b1 := cell_of_heap hB 1
      simp at b0 b1
      obtain ⟨sx, hsx⟩ : ∃ sx, x.sl[q] = sx := ⟨_, rfl⟩
      rw [hsx] at x0 x1 x2
      obtain ⟨sy, hsy⟩ : ∃ sy, y.sl[q] = sy := ⟨_, rfl⟩
      obtain ⟨hz1, hz2⟩ := zipTo_step slXor y.sl x.sl q hqx hqy
      obtain ⟨hz3, hz4⟩ := zipTo_step (addTo .u8) y.se x.se q hqm hqz
      rw [hsx, hsy] at hz2
      rw [hsy] at hz1
      obtain ⟨y0, y1, y2⟩ := hO.slot (s := sy) hz1
      have f0 := frozen_of_heap hO.sl (q * 3)
      have f1 := frozen_of_heap hO.sl (q * 3 + 1)
      have f2 := frozen_of_heap hO.sl (q * 3 + 2)
      have hsgl := lt_of_heap hO.sl
      have hbgl := lt_of_heap hO.se
      have hwl := lt_of_heap hB
      have htw := lt_of_cell t0
      have hd := hO.row (List.getElem?_eq_getElem hqd)
      obtain ⟨d, hdd⟩ : ∃ d, ds[q] = d := ⟨_, rfl⟩
      rw [hdd] at hd
      have hdd' := Lib.hid (show ds[q]? = some d by rw [List.getElem?_eq_getElem hqd, hdd])
      obtain ⟨rx, hrx⟩ : ∃ rx, x.se[q] = rx := ⟨_, rfl⟩
      obtain ⟨ry, hry⟩ : ∃ ry, y.se[q] = ry := ⟨_, rfl⟩
      rw [hrx] at z0 hrow hz4 hzc hrd
      rw [hry] at hz3 hz4
      have hrl := hxl'.out q hqm
      rw [hrx] at hrl
      have hz1' := Lib.hid hz1
      have hz2' := Lib.hid hz2
      have hz3' := Lib.hid hz3
      have hz4' := Lib.hid hz4
      obtain ⟨ks, ss, qs⟩ := sx
      obtain ⟨ky, sy1, qy⟩ := sy
      simp only at x0 x1 x2 y0 y1 y2
      clear hO hK hB hsx hsy hz1 hz2 hz3 hz4 hdd hrx hry hqx hqy hqm hqz hqd hT0 hT1
      go_upto_region 5 with (fail)
      have kN : Keeps Nil wr (wr.alloc (.cells #[.int .u32 ks, .int .i64 ss, .int .u64 qs] 44)) := (Keeps.refl Nil wr).alloc _
      have m0 := kN.cell y0 (fun h => h)
      have m1 := kN.cell y1 (fun h => h)
      have m2 := kN.cell y2 (fun h => h)
      have hs5 := heap_alloc_new wr (.cells #[.int .u32 ks, .int .i64 ss, .int .u64 qs] 44)
      have hs5' := Lib.hid hs5
      have kN' := Lib.hid kN
      clear kN hs5
      go_cut [7, 8, 9] (fun v7 v8 v9 wx => ∃ k1 k2 k3 : Nat, v7 = .slice (some ⟨k1, 0, none⟩) 1 1 ∧ v8 = .slice (some ⟨k2, 0, none⟩) 1 1 ∧ v9 = .slice (some ⟨k3, 0, none⟩) 1 1 ∧ wx.heap[k1]? = some (.cells #[.int .u32 ky] 41) ∧ wx.heap[k2]? = some (.cells #[.int .i64 sy1] 3) ∧ wx.heap[k3]? = some (.cells #[.int .u64 qy] 42) ∧ Keeps Nil (wr.alloc (.cells #[.int .u32 ks, .int .i64 ss, .int .u64 qs] 44)) wx ∧ wr.heap.size < k1 ∧ wr.heap.size < k2 ∧ wr.heap.size < k3)
      case first =>
        go_region_held3 (fun W => W.cell? ⟨sg, q * 3, none⟩ = some (.int .u32 ky) ∧ W.cell? ⟨sg, q * 3 + 1, none⟩ = some (.int .i64 sy1) ∧ W.cell? ⟨sg, q * 3 + 2, none⟩ = some (.int .u64 qy)) (first | exact ⟨m0, m1, m2⟩ | exact ⟨((((Keeps.refl Nil _).alloc _).alloc _).alloc _).drew.cell m0 (fun h => h), ((((Keeps.refl Nil _).alloc _).alloc _).alloc _).drew.cell m1 (fun h => h), ((((Keeps.refl Nil _).alloc _).alloc _).alloc _).drew.cell m2 (fun h => h)⟩ | (go_keep; done)) (fail)
        all_goals
          go_wp2_with fail
          go_meet
        all_goals
          first
            | (refine ⟨_, _, _, rfl, rfl, rfl, ?_, ?_, ?_, ((((Keeps.refl Nil _).alloc _).alloc _).alloc _).drew, ?_, ?_, ?_⟩ <;> (first | exact h3a (heap_alloc_size _ _) | exact h3b (heap_alloc_size _ _) | exact h3c (heap_alloc_size _ _) | omega))
      case rest =>
        obtain ⟨k1, k2, k3, rfl, rfl, rfl, n1, n2, n3, kM, g1, g2, g3⟩ := hcut
        have hs6 := kM.heap hs5'.out (fun h => h)
        have c0 := cell_of_heap hs6 0
        simp at c0
        have n1' := Lib.hid n1
        have n2' := Lib.hid n2
        have n3' := Lib.hid n3
        have hs6' := Lib.hid hs6
        have kC := Lib.hid (kN'.out.trans kM)
        have l1 := lt_of_heap n1
        have l2 := lt_of_heap n2
        have l3 := lt_of_heap n3
        have e12 : ¬ k1 = k2 := by rintro rfl; rw [n1] at n2; injection n2 with h1; injection h1 with _ h2 _; exact absurd h2 (by decide)
        have e13 : ¬ k1 = k3 := by rintro rfl; rw [n1] at n3; injection n3 with h1; injection h1 with _ h2 _; exact absurd h2 (by decide)
        have e23 : ¬ k2 = k3 := by rintro rfl; rw [n2] at n3; injection n3 with h1; injection h1 with _ h2 _; exact absurd h2 (by decide)
        have E := Lib.hid (And.intro e12 (And.intro e13 e23))
        have hsz := Lib.hid kC.out.size
        clear n1 n2 n3 kM hs6 e12 e13 e23 m0 m1 m2 t0 t1 b0 b1 x0 x1 x2 y0 y1 y2 z0 f0 f1 f2 hd
        go_wp2_with fail
        refine (one33 ks n1'.out).mono ?_
        rintro e w6 ⟨rfl, o1, j1⟩
        have hs7 := j1.heap hs6'.out (by omega)
        have c1 := cell_of_heap hs7 1
        simp at c1
        have o2 := j1.heap n2'.out (fun e => E.out.1 e.symm)
        have o3 := j1.heap n3'.out (fun e => E.out.2.1 e.symm)
        have o1' := Lib.hid o1
        have o2' := Lib.hid o2
        have o3' := Lib.hid o3
        have j1' := Lib.hid j1
        have hs7' := Lib.hid hs7
        clear o1 o2 o3 j1 hs7 c0
        go_wp2_with fail
        refine (one34 ss o2'.out).mono ?_
        rintro e w7 ⟨rfl, p2, j2⟩
        have hs8 := j2.heap hs7'.out (by omega)
        have c2 := cell_of_heap hs8 2
        simp at c2
        have p1 := j2.heap o1'.out E.out.1
        have p3 := j2.heap o3'.out (fun e => E.out.2.2 e.symm)
        have p1' := Lib.hid p1
        have p2' := Lib.hid p2
        have p3' := Lib.hid p3
        have j2' := Lib.hid j2
        clear p1 p2 p3 j2 hs8 c1
        go_wp2_with fail
        refine (one35 qs p3'.out).mono ?_
        rintro e w8 ⟨rfl, q3, j3⟩
        have q1 := j3.heap p1'.out E.out.2.1
        have q2 := j3.heap p2'.out E.out.2.2
        have g1' := Lib.hid g1
        have kD : Keeps (fun j => wr.heap.size < j) wr w8 := ((kC.out.trans' j1'.out (fun j hj => .inr (by omega))).trans' j2'.out (fun j hj => .inr (by omega))).trans' j3 (fun j hj => .inr (by omega)) |>.mono (fun _ h => h.elim)
        have hO8 := Lib.hid (hO'.out.keeps kD (fun k hk => by have := hO'.out.lt hk; omega))
        have kW := Lib.hid (hK'.out.trans' kD (fun j hj => .inr (by have := hK'.out.size; omega)))
        have hB8 := kD.heap hB'.out (by omega)
        have z1 := cell_of_heap q1 0
        have z2 := cell_of_heap q2 0
        have z3 := cell_of_heap q3 0
        simp at z1 z2 z3
        obtain ⟨y0, y1, y2⟩ := hO8.out.slot (s := ⟨ky, sy1, qy⟩) hz1'.out
        simp only at y0 y1 y2
        have f0 := frozen_of_heap hO8.out.sl (q * 3)
        have f1 := frozen_of_heap hO8.out.sl (q * 3 + 1)
        have f2 := frozen_of_heap hO8.out.sl (q * 3 + 2)
        have hB8' := Lib.hid hB8
        have hwx : w.heap.size < wr.heap.size := hwl
        have ng1 : ¬ sg = k1 := by omega
        have ng2 : ¬ sg = k2 := by omega
        have ng3 : ¬ sg = k3 := by omega
        obtain ⟨U, hU⟩ : ∃ U, bits .xor .u32 ky ks = U := ⟨_, rfl⟩
        obtain ⟨V, hV⟩ : ∃ V, bits .xor .i64 sy1 ss = V := ⟨_, rfl⟩
        obtain ⟨X, hXX⟩ : ∃ X, bits .xor .u64 qy qs = X := ⟨_, rfl⟩
        rw [hU] at z1
        rw [hV] at z2
        rw [hXX] at z3
        have hset := hO8.out.setSlot (s := ⟨ky, sy1, qy⟩) hz1'.out ⟨U, V, X⟩
        simp only at hset
        have kS : Keeps (· = sg) w8 (((w8.setCell ⟨sg, q * 3, none⟩ (.int .u32 U)).setCell ⟨sg, q * 3 + 1, none⟩ (.int .i64 V)).setCell ⟨sg, q * 3 + 2, none⟩ (.int .u64 X)) := (((Keeps.refl (· = sg) w8).setCell (.inl rfl) _).setCell (.inl rfl) _).setCell (.inl rfl) _
        have s1 := kS.drew.cell z1 (fun e => ng1 e.symm)
        have s2 := kS.drew.cell z2 (fun e => ng2 e.symm)
        have s3 := kS.drew.cell z3 (fun e => ng3 e.symm)
        have hset' := Lib.hid hset
        have kS' := Lib.hid kS
        have hUVX := Lib.hid (And.intro hU (And.intro hV hXX))
        clear q1 q2 q3 j3 kD hB8 c2 hset kS hU hV hXX
        go_wp2_with fail
        go_region_held3 (fun W => W.cell? ⟨k1, 0, none⟩ = some (.int .u32 U) ∧ W.cell? ⟨k2, 0, none⟩ = some (.int .i64 V) ∧ W.cell? ⟨k3, 0, none⟩ = some (.int .u64 X)) (first | exact ⟨z1, z2, z3⟩ | exact ⟨s1, s2, s3⟩ | (go_keep; done)) (fail)
        obtain ⟨w9, hw9⟩ : ∃ w9, (((w8.setCell ⟨sg, q * 3, none⟩ (.int .u32 U)).setCell ⟨sg, q * 3 + 1, none⟩ (.int .i64 V)).setCell ⟨sg, q * 3 + 2, none⟩ (.int .u64 X)).drew = w9 := ⟨_, rfl⟩
        rw [hw9]
        have k89 : Keeps (· = sg) w8 w9 := by rw [← hw9]; exact kS'.out.drew
        have hO9 : OwnLf w9 S sg bg ds ⟨(joinUp y x q).sl.set q ⟨U, V, X⟩, (joinUp y x q).se⟩ := by rw [← hw9]; exact hset'.out.nil (Keeps.refl Nil _).drew
        have kW9 : Keeps (lown sg bg ds) w w9 := kW.out.trans (k89.mono (fun j hj => .inl hj))
        have hlo : ∀ j, lown sg bg ds j → j < w.heap.size := hlt'.out
        have hB9 := k89.heap hB8'.out (fun e => by have := hlo sg (.inl rfl); omega)
        have b1 := cell_of_heap hB9 1
        simp at b1
        have t1 := kW9.cell hT1'.out htb'.out
        have d1 := hO9.row hdd'.out
        have z9 := hzc.out _ kW9
        obtain ⟨r0, hr1, hr2, hr3⟩ := hO9.da q d hdd'.out
        have er : r0 = ry := by
          have h1 : (joinUp y x q).se[q]? = some ry := hz3'.out
          rw [h1] at hr1
          exact (Option.some.inj hr1).symm
        subst er
        have hdl : lown sg bg ds d := .inr (.inr (List.mem_of_getElem? hdd'.out))
        have hdw := hlo d hdl
        have hbw := hlo bg (.inr (.inl rfl))
        have hw9s := kW9.size
        have hdb : ¬ bg = d := by
          rintro rfl
          have := hO9.se
          rw [hr3] at this
          injection this with h1; injection h1 with _ h2 _; exact absurd h2 (by decide)
        have hr3' := Lib.hid hr3
        have hO9' := Lib.hid hO9
        have kW9' := Lib.hid kW9
        have hB9' := Lib.hid hB9
        have hdl' := Lib.hid hdl
        have hxq := Lib.hid (show ¬ zb = d from fun e => hob'.out d hdl (e ▸ hzz'.out))
        have htd := Lib.hid (show ¬ tb = d from fun e => htb'.out (by rw [e]; exact hdl))
        have hwd := Lib.hid (show ¬ w.heap.size = d by omega)
        have hdb' := Lib.hid hdb
        have hrd2 := Lib.hid (show ∀ b, blk ra = some b → 0 < rx.length → b ≠ d from fun b hb hp e => by
          exact hob'.out d hdl (e ▸ hrd.out b hb hp))
        clear hdb
        clear hw9 k89 hO9 kW9 hB9 hr3 hr1 hlo z1 z2 z3 s1 s2 s3 y0 y1 y2 f0 f1 f2 kS' hset' kW hO8
        go_wp2_with fail
        go_region_held3 (fun W => W.cell? ⟨tb, fo + 1, none⟩ = some (.slice (some ⟨bg, 0, none⟩) n n) ∧ W.cell? ⟨bg, q, none⟩ = some (.slice (some ⟨d, 0, none⟩) S S) ∧ W.cell? ⟨w.heap.size, 1, none⟩ = some (.slice (some ⟨zb, zo, none⟩) n bc) ∧ W.cell? ⟨zb, zo + q, none⟩ = some (.slice ra rx.length rcap)) (first | exact ⟨t1, d1, b1, z9⟩ | exact ⟨(((Keeps.refl Nil w9).drew).alloc _).cell t1 (fun h => h), (((Keeps.refl Nil w9).drew).alloc _).cell d1 (fun h => h), (((Keeps.refl Nil w9).drew).alloc _).cell b1 (fun h => h), (((Keeps.refl Nil w9).drew).alloc _).cell z9 (fun h => h)⟩ | exact ⟨u1, u2, u3, u4⟩ | (go_keep; done)) (first
          | (go_at_call 36; refine (sec36 (ry := r0) (rx := rx) (rcap := rcap) (ra := ra) (by exact heap_alloc_old hr3'.out) hr2 hS (by exact heap_alloc_new w9 _) (by exact hrow.out _ (kW9'.out.drew.alloc _)) hrl hrd2.out).mono ?_; rintro e w10 ⟨rfl, hh10, hk10⟩; have kR : Keeps (· = d) w9 w10 := (by first | exact (((Keeps.refl (· = d) w9).alloc _).drew).trans hk10 | exact (((Keeps.refl (· = d) w9).drew).alloc _).trans hk10 | exact ((Keeps.refl (· = d) w9).alloc _).trans hk10); have u1 := kR.cell t1 htd.out; have u2 := kR.cell d1 hdb'.out; have u3 := kR.cell b1 hwd.out; have u4 := kR.cell z9 hxq.out; have kR' := Lib.hid kR; have hh10' := Lib.hid hh10; clear kR hh10 hk10))
        all_goals
          clear u1 u2 u3 u4 t1 d1 b1 z9
          go_wp2_with fail
          go_roundw
          case rel =>
            have hfin := hO9'.out.setSec hdd'.out (r := addTo .u8 r0 rx) (by rw [addTo_len]; exact hr2) hh10'.out kR'.out
            have e1 : (⟨(joinUp y x q).sl.set q ⟨U, V, X⟩, (joinUp y x q).se.set q (addTo .u8 r0 rx)⟩ : Lf) = joinUp y x (q + 1) := by
              have h2 := hz2'.out
              have e2 : slXor ⟨ky, sy1, qy⟩ ⟨ks, ss, qs⟩ = ⟨U, V, X⟩ := by
                unfold slXor
                simp only
                rw [hUVX.out.1, hUVX.out.2.1, hUVX.out.2.2]
              rw [e2] at h2
              unfold joinUp
              rw [← h2, ← hz4'.out]
            simp only at hfin
            rw [e1] at hfin
            exact ⟨q + 1, by omega, by go_num, hfin, kW9'.out.trans (kR'.out.mono (fun j hj => hj ▸ hdl'.out)), kR'.out.heap hB9'.out hwd.out⟩
          case measure => simp [intOf]; omega
    · obtain rfl : q = n := by omega
      rw [joinUp_all hxn'.out hxm'.out] at hO
      have hO2 := Lib.hid hO
      clear hO hK hB hO' hT0 hT1
      go_wp2_with fail
      go_end0
      exact ⟨rfl, hO2.out, hK'.out⟩
end Go.Proofs.Ytdgcbjkopmlegaa
