/- scripts of a map's calls; DftlSame: the walk -/
import Derived.Test.YtnickcjkipemmaaDfT
namespace Go.Proofs.Ytnickcjkipemmaa
open Go.ChangeShapes Go.WideShapes Go.ChangeAt Go.RowKit Go.Deep

structure DOp where
  kind : Int
  key : Int
  n : Int
deriving Inhabited
structure DOpAt (w : World) (b o : Nat) (s : DOp) : Prop where
  kind : w.cell? ⟨b, o, none⟩ = some (.int .i64 s.kind)
  key : w.cell? ⟨b, o + 1, none⟩ = some (.int .i64 s.key)
  n : w.cell? ⟨b, o + 2, none⟩ = some (.int .u64 s.n)
structure DOpOk (r : DOp) : Prop where
  kind : -9223372036854775808 ≤ r.kind ∧ r.kind ≤ 9223372036854775807
  key : -9223372036854775808 ≤ r.key ∧ r.key ≤ 9223372036854775807
  n : 0 ≤ r.n ∧ r.n ≤ 18446744073709551615
def DOpsAt (w : World) (a : Option Addr) (n : Nat) (l : Nat → DOp) : Prop := ∀ j, j < n → ∃ b off, a = some ⟨b, off, none⟩ ∧ DOpAt w b (off + j * 3) (l j)
theorem DOpsAt.keeps {w w' : World} {a : Option Addr} {n : Nat} {l : Nat → DOp} (h : DOpsAt w a n l) (hk : Keeps Nil w w') : DOpsAt w' a n l := fun j hj =>
  let ⟨b, off, h1, h2⟩ := h j hj
  ⟨b, off, h1, ⟨hk.cell h2.kind (fun h => h), hk.cell h2.key (fun h => h), hk.cell h2.n (fun h => h)⟩⟩
theorem arg_dops {H : Type} {enc : TypeId × Value → H} {w : World} {a : Option Addr} {len cap : Nat} {d : DataW H} {ps : List MemPlace} (h : DataW.Trod enc Try.prog w 0 (fun _ => true) true 70 (.slice a len cap) d ps) :
    ∃ l : Nat → DOp, DOpsAt w a len l ∧ (∀ j, j < len → DOpOk (l j)) ∧ (a = none → cap = 0 ∧ len = 0) ∧ len ≤ cap ∧ cap ≤ maxLen ∧ (d = .nil ∧ cap = 0 ∨ ∃ elems spare, d = .slice elems spare ∧ elems.length + spare.length = cap) := by
  obtain ⟨h1, h2, h3, h4, n, hi⟩ := arg_slice 3 Try.underlying70 (by kernel_rfl) (by decide) h
  have each : ∀ i, i < len → ∃ s : DOp, DOpOk s ∧ ∃ b off, a = some ⟨b, off, none⟩ ∧ DOpAt w b (off + i * 3) s := by
    intro i hil
    obtain ⟨b, off, ha, cs, x, hcl, hcell, ht⟩ := hi i hil
    obtain ⟨xs, m, _, _, _, hxl, hf⟩ := DataW.trod_struct Try.underlying73 ht
    have hxl' : xs.length = 3 := hxl
    obtain ⟨x0, g0, w0⟩ := fld_int (i := 0) Try.underlying3 (by kernel_rfl) (by omega) (hf 0 _ rfl)
    obtain ⟨x1, g1, w1⟩ := fld_int (i := 1) Try.underlying3 (by kernel_rfl) (by omega) (hf 1 _ rfl)
    obtain ⟨x2, g2, w2⟩ := fld_int (i := 2) Try.underlying30 (by kernel_rfl) (by omega) (hf 2 _ rfl)
    refine ⟨⟨x0, x1, x2⟩, ⟨wf_i64 w0, wf_i64 w1, wf_u64 w2⟩, b, off, ha, ?_⟩
    exact ⟨(hcell 0 (by omega)).trans g0, (hcell 1 (by omega)).trans g1, (hcell 2 (by omega)).trans g2⟩
  obtain ⟨l, hl⟩ := choose_lt (α := DOp) (p := fun i s => DOpOk s ∧ ∃ b off, a = some ⟨b, off, none⟩ ∧ DOpAt w b (off + i * 3) s) each
  exact ⟨l, fun j hj => (hl j hj).2, fun j hj => (hl j hj).1, h1, h2, h3, h4⟩

/-! ### two maps beside one another -/
structure TwoDf (w wr : World) (d1 p1 d2 p2 : Nat) (keys m1 m2 : Int) (b : Nat) (D E : Df) (O Q : Nat → Prop) : Prop where
  one : DfIn w wr d1 p1 keys m1 D O
  two : DfIn w wr d2 p2 keys m2 E Q
  dis : ∀ k, O k → ¬ Q k
  ok1 : D.Ok keys m1
  ok2 : E.Ok keys m2
  calm1 : D.Calm
  calm2 : E.Calm
  lt1 : D.P.Lt b
  lt2 : E.P.Lt b
variable {w wr w5 : World} {d1 p1 d2 p2 : Nat} {keys m1 m2 : Int} {b b' : Nat} {D E D' E' : Df} {O Q : Nat → Prop}
theorem TwoDf.nil (h : TwoDf w wr d1 p1 d2 p2 keys m1 m2 b D E O Q) (hk : Keeps Nil wr w5) : TwoDf w w5 d1 p1 d2 p2 keys m1 m2 b D E O Q :=
  ⟨h.one.nil hk, h.two.nil hk, h.dis, h.ok1, h.ok2, h.calm1, h.calm2, h.lt1, h.lt2⟩
theorem TwoDf.mono (h : TwoDf w wr d1 p1 d2 p2 keys m1 m2 b D E O Q) (hb : b ≤ b') : TwoDf w wr d1 p1 d2 p2 keys m1 m2 b' D E O Q :=
  ⟨h.one, h.two, h.dis, h.ok1, h.ok2, h.calm1, h.calm2, h.lt1.mono hb, h.lt2.mono hb⟩
theorem TwoDf.step1 {r e : Ending} (h : TwoDf w wr d1 p1 d2 p2 keys m1 m2 b D E O Q) (hc : DfOut wr d1 p1 keys m1 O r D' e w5) (hok : D'.Ok keys m1) (hca : D'.Calm) (hlt : D'.P.Lt b') (hb : b ≤ b') :
    e = r ∧ ∃ O', TwoDf w w5 d1 p1 d2 p2 keys m1 m2 b' D' E O' Q := by
  obtain ⟨h1, O', h2, h3, h4⟩ := h.one.step hc
  refine ⟨h1, O', h2, ⟨h.two.df.keeps h3 (fun k hk ho => h.dis k ho hk), h2.keep, h.two.new⟩, fun k hk hq => ?_, hok, h.ok2, hca, h.calm2, hlt, h.lt2.mono hb⟩
  exact h4 k (h.two.df.lt hq) (fun ho => h.dis k ho hq) hk
theorem TwoDf.step2 {r e : Ending} (h : TwoDf w wr d1 p1 d2 p2 keys m1 m2 b D E O Q) (hc : DfOut wr d2 p2 keys m2 Q r E' e w5) (hok : E'.Ok keys m2) (hca : E'.Calm) (hlt : E'.P.Lt b') (hb : b ≤ b') :
    e = r ∧ ∃ Q', TwoDf w w5 d1 p1 d2 p2 keys m1 m2 b' D E' O Q' := by
  obtain ⟨h1, Q', h2, h3, h4⟩ := h.two.step hc
  refine ⟨h1, Q', ⟨h.one.df.keeps h3 (fun k hk ho => h.dis k hk ho), h2.keep, h.one.new⟩, h2, fun k hk hq => ?_, h.ok1, hok, h.calm1, hca, h.lt1.mono hb, hlt⟩
  exact h4 k (h.one.df.lt hk) (h.dis k hk) hq
theorem cur_new {per : Nat} {k : Int} (hp : 1 ≤ per) (hk : 0 ≤ k) : Df.cur ⟨pgNew per [], []⟩ k = 0 := by
  unfold Df.cur
  show (pgNew per []).at k = 0
  rw [pgNew_at (by omega) hk]; rfl
set_option maxHeartbeats 8000000 in
set_option maxRecDepth 100000 in
theorem same_any (keys0 per one other : Int) (ax : Option Addr) (n capx : Nat) (l : Nat → DOp) (w : World)
    (k0 : -9223372036854775808 ≤ keys0 ∧ keys0 ≤ 9223372036854775807) (k1 : -9223372036854775808 ≤ per ∧ per ≤ 9223372036854775807) (k2 : -9223372036854775808 ≤ one ∧ one ≤ 9223372036854775807) (k3 : -9223372036854775808 ≤ other ∧ other ≤ 9223372036854775807)
    (hx : DOpsAt w ax n l) (hok : ∀ j, j < n → DOpOk (l j)) (hmx : n ≤ maxLen) :
    Calls Try.prog 10 #[.int .i64 keys0, .int .i64 per, .int .i64 one, .int .i64 other, .slice ax n capx] w fun e w' => e = .returned (.bool true) ∧ Keeps Nil w w' := by
  obtain ⟨a0, ha0⟩ : ∃ a, absI keys0 = a := ⟨_, rfl⟩
  obtain ⟨a1, ha1⟩ : ∃ a, absI per = a := ⟨_, rfl⟩
  obtain ⟨a2, ha2⟩ : ∃ a, absI one = a := ⟨_, rfl⟩
  obtain ⟨a3, ha3⟩ : ∃ a, absI other = a := ⟨_, rfl⟩
  have n0 : 0 ≤ a0 := by rw [← ha0]; exact absI_nonneg _
  have n1 : 0 ≤ a1 := by rw [← ha1]; exact absI_nonneg _
  have n2 : 0 ≤ a2 := by rw [← ha2]; exact absI_nonneg _
  have n3 : 0 ≤ a3 := by rw [← ha3]; exact absI_nonneg _
  have hA0 := Lib.hid (fun W => abs29 keys0 a0 W k0.1 k0.2 ha0)
  have hA1 := Lib.hid (fun W => abs29 per a1 W k1.1 k1.2 ha1)
  have hA2 := Lib.hid (fun W => abs29 one a2 W k2.1 k2.2 ha2)
  have hA3 := Lib.hid (fun W => abs29 other a3 W k3.1 k3.2 ha3)
  have b0 : 0 ≤ a0 % 40 := by omega
  have b0' : a0 % 40 ≤ 39 := by omega
  have b1 : 0 ≤ a1 % 9 := by omega
  have b1' : a1 % 9 ≤ 8 := by omega
  have b2 : 0 ≤ a2 % 12 := by omega
  have b2' : a2 % 12 ≤ 11 := by omega
  have b3 : 0 ≤ a3 % 50 := by omega
  have b3' : a3 % 50 ≤ 49 := by omega
  obtain ⟨q, hq⟩ : ∃ q : Nat, 1 + a1 % 9 = (q : Nat) := ⟨(1 + a1 % 9).toNat, by omega⟩
  have hq2 := Lib.hid (show 1 ≤ q ∧ q ≤ 1024 by omega)
  have hq' := Lib.hid hq
  have hmx2 : n ≤ 9223372036854775807 := by unfold maxLen at hmx; omega
  have hx' := Lib.hid hx
  have hok' := Lib.hid hok
  clear ha0 ha1 ha2 ha3 hq hx hok hmx k0 k1 k2 k3
  go_enter Try.func10, Try.ntmps10
  go_wp2_with fail
  refine (awake27 w).mono ?_
  rintro e w1 ⟨rfl, hk1⟩
  have hk1' := Lib.hid hk1
  clear hk1
  go_wp2_with fail
  refine (hA0.out _).mono ?_
  rintro e w2 ⟨rfl, rfl⟩
  go_wp2_with fail
  refine (hA1.out _).mono ?_
  rintro e w2 ⟨rfl, rfl⟩
  go_wp2_with fail
  rw [hq'.out]
  refine (pnew_any q w1 hq2.out (numsAt_nil w1) (by simp)).mono ?_
  rintro e w2 ⟨pb, OA, rfl, hPA, hk2, hOA⟩
  have hP3 : Calls Try.prog 28 #[.int .i64 3, .slice none 0 0] w2 (PNewOut w2 3 []) := pnew_any 3 w2 (by decide) (numsAt_nil w2) (by decide)
  have hP3' := Lib.hid hP3
  have hPA' := Lib.hid hPA
  have hk2' := Lib.hid hk2
  have hOA' := Lib.hid hOA
  clear hP3 hPA hk2 hOA
  go_wp2_with fail
  refine (hP3'.out).mono ?_
  rintro e w3 ⟨pb2, OB, rfl, hPB, hk3, hOB⟩
  have hPB' := Lib.hid hPB
  have hk3' := Lib.hid hk3
  have hOB' := Lib.hid hOB
  clear hPB hk3 hOB hP3'
  go_wp2_with fail
  refine (hA1.out _).mono ?_
  rintro e w4 ⟨rfl, rfl⟩
  go_wp2_with fail
  refine (hA2.out _).mono ?_
  rintro e w4 ⟨rfl, rfl⟩
  have hN := new_ok (keys := 1 + a0 % 40) (most := 1 + a2 % 12) (P := pgNew q []) (hPA'.out.keeps hk3'.out (fun _ _ h => h)) (by omega) (by omega) rfl rfl
  rw [show (((pgNew q []).per : Nat) : Int) = (q : Int) from rfl] at hN
  have hN' := Lib.hid hN
  clear hN
  go_wp2_with fail
  rw [hq'.out]
  refine (hN'.out).mono ?_
  rintro e w4 ⟨db, O1, rfl, hD1, hk4, hO1⟩
  have hD1' := Lib.hid hD1
  have hk4' := Lib.hid hk4
  have hO1' := Lib.hid hO1
  clear hD1 hk4 hO1 hN'
  go_wp2_with fail
  refine (hA3.out _).mono ?_
  rintro e w5 ⟨rfl, rfl⟩
  have hN := new_ok (keys := 1 + a0 % 40) (most := 1 + a3 % 50) (P := pgNew 3 []) (hPB'.out.keeps hk4'.out (fun _ _ h => h)) (by omega) (by omega) rfl rfl
  rw [show (((pgNew 3 []).per : Nat) : Int) = 3 from rfl] at hN
  have hN' := Lib.hid hN
  clear hN
  go_wp2_with fail
  refine (hN'.out).mono ?_
  rintro e w5 ⟨db2, O2, rfl, hD2, hk5, hO2⟩
  have hz := Lib.hid (hk1'.out.trans hk2'.out)
  have hT0 : TwoDf w w5 db pb db2 pb2 (1 + a0 % 40) (1 + a2 % 12) (1 + a3 % 50) 0 ⟨pgNew q [], []⟩ ⟨pgNew 3 [], []⟩ O1 O2 := by
    have s1 := hk1'.out.size
    have s2 := hk2'.out.size
    have s3 := hk3'.out.size
    have s4 := hk4'.out.size
    refine ⟨⟨hD1'.out.keeps hk5 (fun _ _ h => h), (((hz.out.trans hk3'.out).trans hk4'.out).trans hk5), fun k hk => ?_⟩, ⟨hD2, (((hz.out.trans hk3'.out).trans hk4'.out).trans hk5), fun k hk => ?_⟩, fun k h1 h2 => ?_, ok_new hq2.out.1 (by omega), ok_new (by decide) (by omega), ⟨rfl⟩, ⟨rfl⟩, ⟨Nat.le_refl _, Nat.le_refl _, Nat.le_refl _⟩, ⟨Nat.le_refl _, Nat.le_refl _, Nat.le_refl _⟩⟩
    · rcases hO1'.out k hk with h | h
      · have := hOA'.out k h; omega
      · omega
    · rcases hO2 k hk with h | h
      · have := hOB'.out k h; omega
      · omega
    · have a1 := hD1'.out.lt h1
      rcases hO2 k h2 with h4 | h4
      · have a2 := hOB'.out k h4
        have a3 := hPB'.out.lt k h4
        rcases hO1'.out k h1 with h5 | h5
        · have := hPA'.out.lt k h5; omega
        · omega
      · omega
  have hT0' := Lib.hid hT0
  have hC0 := Lib.hid (show ∀ k, 0 ≤ k → Df.cur ⟨pgNew q [], []⟩ k = Df.cur ⟨pgNew 3 [], []⟩ k from fun k hk => by rw [cur_new hq2.out.1 hk, cur_new (by decide) hk])
  clear hT0 hD2 hk5 hO2 hN' hD1' hk4' hO1' hPA' hPB' hOA' hOB' hk2' hk3' hk1' hz
  generalize (⟨pgNew q [], []⟩ : Df) = D0 at hT0' hC0
  generalize (⟨pgNew 3 [], []⟩ : Df) = E0 at hT0' hC0
  obtain ⟨K, hK⟩ : ∃ K, 1 + a0 % 40 = K := ⟨_, rfl⟩
  have hKb : 1 ≤ K := by omega
  have hKb' : K ≤ 40 := by omega
  go_wp2_with fail
  rw [hK] at hT0'
  have hm1 := Lib.hid (show 1 ≤ 1 + a2 % 12 by omega)
  have hm2 := Lib.hid (show 1 ≤ 1 + a3 % 50 by omega)
  clear hK b0 b0' n0
  go_wp2_with fail
  go_loopw [18, 19, 20, 21, 22, 23, 24] (fun i _ _ _ _ _ _ wr => ∃ (j : Nat) (D E : Df) (O Q : Nat → Prop), j ≤ 150 ∧ i = .int .i64 j ∧ TwoDf w wr db pb db2 pb2 K (1 + a2 % 12) (1 + a3 % 50) (10 * j) D E O Q ∧ ∀ k, 0 ≤ k → D.cur k = E.cur k) (fun i _ _ _ _ _ _ _ => 150 - (intOf i).toNat)
  case atStart => exact ⟨0, D0, E0, O1, O2, by omega, rfl, hT0'.out, hC0.out⟩
  case round =>
    obtain ⟨j, D, E, O, Q, hj, rfl, hT, hC⟩ := hrel
    have hC := Lib.hid hC
    by_cases hin : j < n ∧ j < 150
    · obtain ⟨hi1, hi2⟩ := hin
      obtain ⟨xb, xo, rfl, hop⟩ := (hx'.out.keeps hT.one.keep) j hi1
      have hoo := hok'.out j hi1
      obtain ⟨x, hx⟩ : ∃ x, l j = x := ⟨_, rfl⟩
      rw [hx] at hop hoo
      have q0 := hop.kind
      have q1 := hop.key
      have q2 := hop.n
      obtain ⟨ak, hak⟩ : ∃ a, absI x.key = a := ⟨_, rfl⟩
      obtain ⟨ad, had⟩ : ∃ a, absI x.kind = a := ⟨_, rfl⟩
      have nk : 0 ≤ ak := by rw [← hak]; exact absI_nonneg _
      have nd : 0 ≤ ad := by rw [← had]; exact absI_nonneg _
      have hAk := Lib.hid (fun W => abs29 x.key ak W hoo.key.1 hoo.key.2 hak)
      have hAd := Lib.hid (fun W => abs29 x.kind ad W hoo.kind.1 hoo.kind.2 had)
      have hkk0 : 0 ≤ ak % K := Int.emod_nonneg _ (by omega)
      have hkk1 : ak % K < K := Int.emod_lt_of_pos _ (by omega)
      obtain ⟨kk, hkk⟩ : ∃ kk, ak % K = kk := ⟨_, rfl⟩
      rw [hkk] at hkk0 hkk1
      have htm : ak.tmod K = kk := by rw [Int.tmod_eq_emod_of_nonneg nk, hkk]
      have hK0 : ¬ K = 0 := by omega
      obtain ⟨W1, hW1⟩ : ∃ W1, wr.alloc (.cells #[.int .i64 x.kind, .int .i64 x.key, .int .u64 x.n] 73) = W1 := ⟨_, rfl⟩
      have s1 : Keeps Nil wr W1 := by rw [← hW1]; exact (Keeps.refl Nil wr).alloc _
      have v2 : W1.cell? ⟨wr.heap.size, 2, none⟩ = some (.int .u64 x.n) := by rw [← hW1]; simp [go_sem]
      have hT1 := Lib.hid (hT.nil s1)
      have hvn := Lib.hid (show ∀ k, (O k ∨ Q k) → k < wr.heap.size from fun k hk => hk.elim (fun h => hT.one.df.lt h) (fun h => hT.two.df.lt h))
      have hW1' := Lib.hid hW1
      have hkk' := Lib.hid hkk
      clear hT hx hop hoo hak had hW1 s1 hkk
      by_cases he : ad % 2 = 0
      · have e1 : (ad % 2 == 0) = true := by simpa using he
        clear he
        have hso1 := hT1.out.ok1.set hm1.out (k := kk) (n := x.n) ⟨hkk0, hkk1⟩
        have hsc1 := hT1.out.calm1.set (most := 1 + a2 % 12) kk x.n
        have hS1 := dset_any hT1.out.one.df hT1.out.ok1 kk x.n hkk0 hkk1 (hT1.out.lt1.mono (by omega))
        rw [hsc1.1] at hS1
        have hst3 := Lib.hid (fun e w6 hE => hT1.out.step1 (e := e) (w5 := w6) (D' := (Df.set (1 + a2 % 12) kk x.n D).2) (b' := 10 * j + 2) (r := .returned (.int .i64 0)) hE hso1.1 hsc1.2 (set_lt hT1.out.lt1) (by omega))
        have hsu1 := Lib.hid (hso1.2.2.1 hsc1.1)
        have hS1' := Lib.hid hS1
        have hvk := Lib.hid (fun w6 (hE : DfOut W1 db pb K (1 + a2 % 12) O (.returned (.int .i64 0)) (Df.set (1 + a2 % 12) kk x.n D).2 (.returned (.int .i64 0)) w6) => (show w6.cell? ⟨wr.heap.size, 2, none⟩ = some (.int .u64 x.n) from by
          obtain ⟨_, O', _, h3, _⟩ := hE
          exact h3.cell v2 (fun h => by have := hvn.out _ (.inl h); omega)))
        clear hso1 hsc1 hS1 v2
        go_wp2_with fail
        refine (hAk.out _).mono ?_
        rintro e w4 ⟨rfl, rfl⟩
        go_wp2_with fail
        refine (hAd.out _).mono ?_
        rintro e w4 ⟨rfl, rfl⟩
        go_wp2_with fail
        try rw [hkk'.out]
        rw [hW1'.out]
        refine (hS1'.out).mono ?_
        intro e w4 hE
        have hE0 := hE
        obtain ⟨rfl, O4, hZ4⟩ := hst3.out _ _ hE
        have v4 := hvk.out _ hE0
        have hZ4' := Lib.hid hZ4
        clear hE hE0 hZ4 hst3 hS1' hvk
        have hso2 := hZ4'.out.ok2.set hm2.out (k := kk) (n := x.n) ⟨hkk0, hkk1⟩
        have hsc2 := hZ4'.out.calm2.set (most := 1 + a3 % 50) kk x.n
        have hS2 := dset_any hZ4'.out.two.df hZ4'.out.ok2 kk x.n hkk0 hkk1 (hZ4'.out.lt2.mono (by omega))
        rw [hsc2.1] at hS2
        have hst4 := Lib.hid (fun e w6 hE => hZ4'.out.step2 (e := e) (w5 := w6) (E' := (Df.set (1 + a3 % 50) kk x.n E).2) (b' := 10 * j + 4) (r := .returned (.int .i64 0)) hE hso2.1 hsc2.2 ((set_lt hZ4'.out.lt2).mono (by omega)) (by omega))
        have hsu2 := Lib.hid (hso2.2.2.1 hsc2.1)
        have hS2' := Lib.hid hS2
        clear hso2 hsc2 hS2
        go_wp2_with fail
        try rw [hkk'.out]
        refine (hS2'.out).mono ?_
        intro e w5 hE
        obtain ⟨rfl, Q5, hZ5⟩ := hst4.out _ _ hE
        have hZ5' := Lib.hid hZ5
        have hC5 := Lib.hid (show ∀ k, 0 ≤ k → (Df.set (1 + a2 % 12) kk x.n D).2.cur k = (Df.set (1 + a3 % 50) kk x.n E).2.cur k from fun k hk => by rw [hsu1.out k, hsu2.out k, hC.out k hk])
        clear hE hZ5 hst4 hS2' v4
        generalize (Df.set (1 + a2 % 12) kk x.n D).2 = D5 at hZ5' hC5
        generalize (Df.set (1 + a3 % 50) kk x.n E).2 = E5 at hZ5' hC5
        have hgo1 := hZ5'.out.ok1.get hm1.out (k := kk) ⟨hkk0, hkk1⟩
        have hgc1 := hZ5'.out.calm1.get (most := 1 + a2 % 12) kk
        have hG1 := dget_any hZ5'.out.one.df hZ5'.out.ok1 kk hkk0 hkk1 (hZ5'.out.lt1.mono (by omega))
        rw [hgo1.2.2.2.1 hgc1.1, hgc1.1] at hG1
        have hG1' := Lib.hid hG1
        have hst1 := Lib.hid (fun e w6 hE => hZ5'.out.step1 (e := e) (w5 := w6) (D' := Df.getD (1 + a2 % 12) kk D5) (b' := (10 * j + 4) + 3) (r := .returned (.tuple #[.int .u64 (D5.cur kk), .int .i64 0])) hE hgo1.1 hgc1.2 (get_lt hZ5'.out.lt1) (by omega))
        have hcu1 := Lib.hid hgo1.2.2.1
        have hcv := Lib.hid (hC5.out kk hkk0)
        clear hgo1 hgc1 hG1
        obtain ⟨cv, hcve⟩ : ∃ cv, D5.cur kk = cv := ⟨_, rfl⟩
        rw [hcve] at hG1' hst1 hcv
        clear hcve
        go_wp2_with fail
        refine (hG1'.out).mono ?_
        intro e w6 hE
        obtain ⟨rfl, O6, hZ6⟩ := hst1.out _ _ hE
        have hZ6' := Lib.hid hZ6
        clear hE hZ6 hst1 hG1'
        have hgo2 := hZ6'.out.ok2.get hm2.out (k := kk) ⟨hkk0, hkk1⟩
        have hgc2 := hZ6'.out.calm2.get (most := 1 + a3 % 50) kk
        have hG2 := dget_any hZ6'.out.two.df hZ6'.out.ok2 kk hkk0 hkk1 (hZ6'.out.lt2.mono (by omega))
        rw [hgo2.2.2.2.1 hgc2.1, hgc2.1] at hG2
        have hst2 := fun e w7 hE => hZ6'.out.step2 (e := e) (w5 := w7) (E' := Df.getD (1 + a3 % 50) kk E5) (b' := (10 * j + 4) + 6) (r := .returned (.tuple #[.int .u64 (E5.cur kk), .int .i64 0])) hE hgo2.1 hgc2.2 ((get_lt hZ6'.out.lt2).mono (by omega)) (by omega)
        rw [← hcv.out] at hG2 hst2
        have hst2' := Lib.hid hst2
        have hG2' := Lib.hid hG2
        have hcu2 := Lib.hid hgo2.2.2.1
        clear hgo2 hgc2 hG2 hst2
        go_wp2_with fail
        refine (hG2'.out).mono ?_
        intro e w7 hE
        obtain ⟨rfl, O7, hZ7⟩ := hst2'.out _ _ hE
        have hZ7' := Lib.hid hZ7
        have hCn := Lib.hid (show ∀ k, 0 ≤ k → (Df.getD (1 + a2 % 12) kk D5).cur k = (Df.getD (1 + a3 % 50) kk E5).cur k from fun k hk => by rw [hcu1.out k, hcu2.out k]; exact hC5.out k hk)
        clear hE hZ7 hst2' hG2'
        go_wp2_with fail
        go_roundw
        case rel => exact ⟨j + 1, _, _, _, _, by omega, by go_num, hZ7'.out.mono (by omega), hCn.out⟩
        case measure => simp [intOf]; omega
      · have e1 : (ad % 2 == 0) = false := by simpa using he
        clear he
        go_wp2_with fail
        refine (hAk.out _).mono ?_
        rintro e w4 ⟨rfl, rfl⟩
        go_wp2_with fail
        refine (hAd.out _).mono ?_
        rintro e w4 ⟨rfl, rfl⟩
        have hgo1 := hT1.out.ok1.get hm1.out (k := kk) ⟨hkk0, hkk1⟩
        have hgc1 := hT1.out.calm1.get (most := 1 + a2 % 12) kk
        have hG1 := dget_any hT1.out.one.df hT1.out.ok1 kk hkk0 hkk1 (hT1.out.lt1.mono (by omega))
        rw [hgo1.2.2.2.1 hgc1.1, hgc1.1] at hG1
        have hG1' := Lib.hid hG1
        have hst1 := Lib.hid (fun e w6 hE => hT1.out.step1 (e := e) (w5 := w6) (D' := Df.getD (1 + a2 % 12) kk D) (b' := (10 * j) + 3) (r := .returned (.tuple #[.int .u64 (D.cur kk), .int .i64 0])) hE hgo1.1 hgc1.2 (get_lt hT1.out.lt1) (by omega))
        have hcu1 := Lib.hid hgo1.2.2.1
        have hcv := Lib.hid (hC.out kk hkk0)
        clear hgo1 hgc1 hG1
        obtain ⟨cv, hcve⟩ : ∃ cv, D.cur kk = cv := ⟨_, rfl⟩
        rw [hcve] at hG1' hst1 hcv
        clear hcve
        go_wp2_with fail
        try rw [hkk'.out]
        rw [hW1'.out]
        refine (hG1'.out).mono ?_
        intro e w6 hE
        obtain ⟨rfl, O6, hZ6⟩ := hst1.out _ _ hE
        have hZ6' := Lib.hid hZ6
        clear hE hZ6 hst1 hG1'
        have hgo2 := hZ6'.out.ok2.get hm2.out (k := kk) ⟨hkk0, hkk1⟩
        have hgc2 := hZ6'.out.calm2.get (most := 1 + a3 % 50) kk
        have hG2 := dget_any hZ6'.out.two.df hZ6'.out.ok2 kk hkk0 hkk1 (hZ6'.out.lt2.mono (by omega))
        rw [hgo2.2.2.2.1 hgc2.1, hgc2.1] at hG2
        have hst2 := fun e w7 hE => hZ6'.out.step2 (e := e) (w5 := w7) (E' := Df.getD (1 + a3 % 50) kk E) (b' := (10 * j) + 6) (r := .returned (.tuple #[.int .u64 (E.cur kk), .int .i64 0])) hE hgo2.1 hgc2.2 ((get_lt hZ6'.out.lt2).mono (by omega)) (by omega)
        rw [← hcv.out] at hG2 hst2
        have hst2' := Lib.hid hst2
        have hG2' := Lib.hid hG2
        have hcu2 := Lib.hid hgo2.2.2.1
        clear hgo2 hgc2 hG2 hst2
        go_wp2_with fail
        try rw [hkk'.out]
        refine (hG2'.out).mono ?_
        intro e w7 hE
        obtain ⟨rfl, O7, hZ7⟩ := hst2'.out _ _ hE
        have hZ7' := Lib.hid hZ7
        have hCn := Lib.hid (show ∀ k, 0 ≤ k → (Df.getD (1 + a2 % 12) kk D).cur k = (Df.getD (1 + a3 % 50) kk E).cur k from fun k hk => by rw [hcu1.out k, hcu2.out k]; exact hC.out k hk)
        clear hE hZ7 hst2' hG2'
        go_wp2_with fail
        go_roundw
        case rel => exact ⟨j + 1, _, _, _, _, by omega, by go_num, hZ7'.out.mono (by omega), hCn.out⟩
        case measure => simp [intOf]; omega
    · have hcase : (j < n ∧ ¬ j < 150) ∨ ¬ j < n := by omega
      have hf1 := Df.Calm.flush D.L hT.calm1
      have hf2 := Df.Calm.flush E.L hT.calm2
      have hF1 := dflush_any hT.one.df hT.ok1 hT.lt1 (by omega)
      have ho1 := Df.Ok.flush D.L hT.ok1
      have ho2 := Df.Ok.flush E.L hT.ok2
      have hl1 : D.L.length ≤ 1000 := by have := hT.ok1.len; omega
      have hl2 : E.L.length ≤ 1000 := by have := hT.ok2.len; omega
      rw [hf1.1] at hF1
      have hF1' := Lib.hid hF1
      have hat : ∀ k, 0 ≤ k → (Df.flush D.L D).2.P.at k = (Df.flush E.L E).2.P.at k := fun k hk => by
        rw [hT.ok1.flushed hf1.1, hT.ok2.flushed hf2.1]; exact hC.out k hk
      have hat' := Lib.hid hat
      have hst1 := Lib.hid (fun e w6 hE => hT.step1 (e := e) (w5 := w6) (D' := (Df.flush D.L D).2) (b' := 10 * j + 2 * D.L.length) (r := .returned (.int .i64 0)) hE ho1.1 hf1.2 (flush_lt D.L hT.lt1) (by omega))
      have hf2' := Lib.hid hf2
      have ho2' := Lib.hid ho2
      clear hT hC hin hf1 hf2 ho1 ho2 hF1 hat
      rcases hcase with ⟨hi1, hi2⟩ | hi1
      all_goals
        go_wp2_with fail
        refine (hF1'.out).mono ?_
        intro e w6 hE
        obtain ⟨rfl, O6, hZ6⟩ := hst1.out _ _ hE
        have hF2 := dflush_any hZ6.two.df hZ6.ok2 hZ6.lt2 (by omega)
        rw [hf2'.out.1] at hF2
        have hF2' := Lib.hid hF2
        have hst2 := Lib.hid (fun e w7 hE => hZ6.step2 (e := e) (w5 := w7) (E' := (Df.flush E.L E).2) (b' := 10 * j + 2 * D.L.length + 2 * E.L.length) (r := .returned (.int .i64 0)) hE ho2'.out.1 hf2'.out.2 (flush_lt E.L hZ6.lt2) (by omega))
        clear hE hZ6 hF2 hst1 hF1'
        go_wp2_with fail
        refine (hF2'.out).mono ?_
        intro e w7 hE
        obtain ⟨rfl, Q7, hZ7⟩ := hst2.out _ _ hE
        have hZ7' := Lib.hid hZ7
        clear hE hZ7 hst2 hF2' hf2' ho2'
        generalize (Df.flush D.L D).2 = D7 at hZ7' hat'
        generalize (Df.flush E.L E).2 = E7 at hZ7' hat'
        go_wp2_with fail
        go_loopw [25] (fun i wr => ∃ k : Nat, k ≤ 40 ∧ i = .int .i64 k ∧ Keeps Nil w7 wr) (fun i _ => 40 - (intOf i).toNat)
        case atStart => exact ⟨0, by omega, rfl, Keeps.refl _ _⟩
        case round =>
          obtain ⟨k, hk, rfl, hKp⟩ := hrel
          by_cases hkK : (k : Int) < K
          · obtain ⟨OP, hPg, _⟩ := (hZ7'.out.one.nil hKp).at
            have hA1 := Lib.hid (at_any hPg (k := k) (by omega) (by omega))
            have hKp' := Lib.hid hKp
            obtain ⟨av, hav⟩ : ∃ v, D7.P.at k = v := ⟨_, rfl⟩
            have hav2 := hat'.out k (by omega)
            rw [hav] at hA1 hav2
            have hav2' := Lib.hid hav2
            clear hPg hKp hav hav2
            go_wp2_with fail
            refine (hA1.out).mono ?_
            rintro e w8 ⟨rfl, hk8⟩
            have hk8' := Lib.hid (hKp'.out.trans hk8)
            clear hk8 hA1
            obtain ⟨OP, hPg, _⟩ := (hZ7'.out.two.nil hk8'.out).at
            have hA2 := at_any hPg (k := k) (by omega) (by omega)
            rw [← hav2'.out] at hA2
            have hA2' := Lib.hid hA2
            clear hPg hA2
            go_wp2_with fail
            refine (hA2'.out).mono ?_
            rintro e w9 ⟨rfl, hk9⟩
            have hk9' := Lib.hid (hk8'.out.trans hk9)
            clear hk9 hA2'
            go_wp2_with fail
            go_roundw
            case rel => exact ⟨k + 1, by omega, by go_num, hk9'.out⟩
            case measure => simp [intOf]; omega
          · have hKp' := Lib.hid hKp
            clear hKp
            go_wp2_with fail
            go_ret
            exact ⟨rfl, hZ7'.out.one.keep.trans hKp'.out⟩
end Go.Proofs.Ytnickcjkipemmaa
