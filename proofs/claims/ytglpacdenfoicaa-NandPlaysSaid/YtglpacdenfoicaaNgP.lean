/- NandPlays: the array beside the document's -/
import Derived.Test.YtglpacdenfoicaaNgO
import Derived.Test.YtglpacdenfoicaaNgL
import Derived.Test.YtglpacdenfoicaaNeW
import Derived.Test.YtglpacdenfoicaaNeI
import Derived.Deep.CutBlock
import Derived.Deep.DeepCutAuto
namespace Go.Proofs.Ytglpacdenfoicaa
open Go.RowKit

structure TwoA (w0 w : World) (ab : Nat) (A : Nd) (b : Nat) (O : Nat → Prop) (P : RfP) (O' : Nat → Prop) : Prop where
  a : NdO w0 w ab A b O
  r : RfO w0 w P A b O'
  ne : ∀ k, O k → ¬ O' k
  old : ∀ x ∈ P.L, 0 < x.f.bits.length → ∀ g, blk x.a = some g → g < w0.heap.size
variable {w0 w w1 w2 : World} {ab b b' : Nat} {A A' : Nd} {O O2 O' O2' T : Nat → Prop} {P : RfP}
theorem RfO.far (h : RfO w0 w P A b O') (hk : Keeps T w w1) (h1 : ∀ k, O' k → ¬ T k) (h2 : ∀ k, T k → w0.heap.size ≤ k) (ho : ∀ x ∈ P.L, 0 < x.f.bits.length → ∀ g, blk x.a = some g → g < w0.heap.size) : RfO w0 w1 P A b O' :=
  ⟨RfB.keeps h.q hk h1 (fun x hx h0 g hg ht => by have := ho x hx h0 g hg; have := h2 g ht; omega), h.good, h.keep.trans' hk (fun k hk => .inr (h2 k hk)), h.new⟩
theorem RfO.lt (h : RfO w0 w P A b O') {k : Nat} (hk : O' k) : k < w.heap.size := RfB.lt h.q k hk
theorem TwoA.nil (h : TwoA w0 w ab A b O P O') (hk : Keeps Nil w w1) : TwoA w0 w1 ab A b O P O' := ⟨h.a.nil hk, h.r.nil hk, h.ne, h.old⟩
theorem TwoA.far (h : TwoA w0 w ab A b O P O') (hk : Keeps T w w1) (h1 : ∀ k, O k → ¬ T k) (h3 : ∀ k, O' k → ¬ T k) (h2 : ∀ k, T k → w0.heap.size ≤ k) : TwoA w0 w1 ab A b O P O' :=
  ⟨h.a.far hk h1 h2, h.r.far hk h3 h2 h.old, h.ne, h.old⟩
/-- the array's own step, then the document's -/
structure MidA (w0 w w1 : World) (ab : Nat) (A A' : Nd) (b b' : Nat) (O O2 : Nat → Prop) (P : RfP) (O' : Nat → Prop) : Prop where
  a : NdO w0 w1 ab A' b' O2
  r : RfO w0 w1 P A b O'
  sub : ∀ k, O2 k → O k ∨ w.heap.size ≤ k
  size : w.heap.size ≤ w1.heap.size
theorem TwoA.mid (h : TwoA w0 w ab A b O P O') (h1 : NdO w0 w1 ab A' b' O2) (hk : Keeps O w w1) (hs : ∀ k, O2 k → O k ∨ w.heap.size ≤ k) : MidA w0 w w1 ab A A' b b' O O2 P O' :=
  ⟨h1, h.r.far hk (fun k hk ho => h.ne k ho hk) h.a.new h.old, hs, hk.size⟩
theorem TwoA.two (h : TwoA w0 w ab A b O P O') (hm : MidA w0 w w1 ab A A' b b' O O2 P O') (h1 : RfO w0 w2 P A' b' O2') (hk : Keeps O' w1 w2) (hs : ∀ k, O2' k → O' k ∨ w1.heap.size ≤ k) : TwoA w0 w2 ab A' b' O2 P O2' := by
  have hne : ∀ k, O2 k → ¬ O' k := fun k h2 h3 => by
    rcases hm.sub k h2 with h4 | h4
    · exact h.ne k h4 h3
    · have := h.r.lt h3; omega
  refine ⟨hm.a.far hk hne (fun k hk => h.r.new k hk), h1, fun k h2 h3 => ?_, h.old⟩
  rcases hs k h3 with h4 | h4
  · exact hne k h2 h4
  · have := hm.a.lt h2; omega
/-- a row that neither owns -/
structure FreeR (w : World) (y : Nat) (O O' : Nat → Prop) : Prop where
  a : ¬ O y
  r : ¬ O' y
def Win (w : World) (y o n : Nat) : Prop := ∃ cs : Array Value, w.heap[y]? = some (.cells cs 5 (0, 0)) ∧ o + n ≤ cs.size
theorem Win.set {y o n i : Nat} {v : Value} (h : Win w y o n) : Win (w.setCell ⟨y, o + i, none⟩ v) y o n := by
  obtain ⟨cs, h1, h2⟩ := h
  exact ⟨_, heap_setCell_same h1 _ _, by rw [Array.size_setIfInBounds]; exact h2⟩
theorem Win.cell {y o n i : Nat} (h : Win w y o n) (hi : i < n) : ∃ v, w.cell? ⟨y, o + i, none⟩ = some v ∧ w.frozen? ⟨y, o + i, none⟩ = false := by
  obtain ⟨cs, h1, h2⟩ := h
  exact ⟨_, (cell_of_heap h1 _).trans (Array.getElem?_eq_getElem (by omega)), frozen_of_heap h1 _⟩
theorem Win.keeps {y o n : Nat} (h : Win w y o n) (hk : Keeps T w w1) (hn : ¬ T y) : Win w1 y o n := by
  obtain ⟨cs, h1, h2⟩ := h
  exact ⟨cs, hk.heap h1 hn, h2⟩
theorem NumRow.win {y c : Nat} {l : List Int} (h : NumRow .u8 w 5 (some ⟨y, 0, none⟩) c l) : Win w y 0 l.length := by
  rcases RowAt.form h with ⟨h1, _⟩ | ⟨g, cur, h1, h2, h3, h4, _⟩
  · cases h1
  · cases h1
    exact ⟨cur, h3, by omega⟩
theorem gi_drop1 {l : List Int} {j : Nat} : gi (l.drop 1) j = gi l (1 + j) := by
  unfold gi
  rw [Nat.add_comm]
  simp
theorem NumsAt.drop1 {y : Nat} {l : List Int} (h : NumsAt .u8 w (some ⟨y, 0, none⟩) l) : NumsAt .u8 w (some ⟨y, 1, none⟩) (l.drop 1) := by
  intro j hj
  rw [List.length_drop] at hj
  obtain ⟨b, off, e, hc⟩ := h (1 + j) (by omega)
  cases e
  refine ⟨_, _, rfl, ?_⟩
  rw [gi_drop1]
  rw [Nat.zero_add] at hc
  exact hc
/-- what is programmed -/
structure XIn (w w1 : World) (y o n c : Nat) (l : List Int) : Prop where
  nums : NumsAt .u8 w1 (some ⟨y, o, none⟩) l
  len : l.length = n
  cap : n ≤ c
  win : Win w1 y o n
  lo : w.heap.size ≤ y
  n6 : n ≤ 100000
theorem XIn.lt {y o n c : Nat} {l : List Int} (h : XIn w w1 y o n c l) : y < w1.heap.size := by
  obtain ⟨cs, h1, _⟩ := h.win
  exact lt_of_heap h1
theorem RfO.on (h : RfO w0 w P A b O') : RfO w0 (w.setCell ⟨P.rb, 7, none⟩ (.bool false)) P { A with off := false } b O' ∧ Keeps O' w (w.setCell ⟨P.rb, 7, none⟩ (.bool false)) := by
  have hk : Keeps (· = P.rb) w (w.setCell ⟨P.rb, 7, none⟩ (.bool false)) := (Keeps.refl (· = P.rb) w).setCell (.inl rfl) _
  have ho : O' P.rb := RfB.ownA h.q
  have hk2 : Keeps O' w (w.setCell ⟨P.rb, 7, none⟩ (.bool false)) := hk.mono (fun k hk => by rw [hk]; exact ho)
  refine ⟨⟨RfB.editA h.q hk ?_ rfl rfl rfl, h.good.on false, h.keep.trans' hk2 (fun k hk => .inr (h.new k hk)), h.new⟩, hk2⟩
  rw [heap_setCell_same (RfB.blk h.q)]
  simp [rfCells]
theorem TwoA.succ (h : TwoA w0 w ab A b O P O') : TwoA w0 w ab A (b + 1) O P O' :=
  ⟨⟨h.a.at', h.a.good.mono (Nat.le_succ b), h.a.keep, h.a.new⟩, ⟨h.r.q, h.r.good.mono (Nat.le_succ b), h.r.keep, h.r.new⟩, h.ne, h.old⟩
theorem readOutI_len {A : Nd} (h : A.Ok) {d n p : Int} {l : List Int} (hl : A.readOutI d n p = some l) : l.length = A.S.bytes := by
  unfold Nd.readOutI at hl
  split at hl
  · cases hl
  · split at hl
    · cases hl
    · unfold Nd.readOut at hl
      split at hl
      · cases hl
      · split at hl
        · cases hl
        · cases hl
          exact readSt_len h _ _ _ _
theorem run_eql_str (s : ByteArray) (w : World) : (binOp .eql 9 (.string s) (.string s)).run Try.prog w = .ok (.bool true) w := by
  simp [binOp, Op.stringOp]
set_option maxHeartbeats 16000000 in
set_option maxRecDepth 100000 in
theorem one23 (h : TwoA w0 w ab A b O P O') (hb : b ≤ 100000) {o : OpN} (ho : OpOk w o) : Calls Try.prog 23 #[.pointer (some ⟨ab, 0, none⟩), .pointer (some ⟨P.rb, 0, none⟩), .agg #[.int .i64 o.kind, .int .i64 o.die, .int .i64 o.block, .int .i64 o.page, .slice o.a o.data.length o.c]] w
    fun e w' => e = .returned (.bool true) ∧ ∃ A' O2 O2', TwoA w0 w' ab A' (b + 1) O2 P O2' := by
  have hS := h.a.good.ok.S
  have hk0 := (Keeps.refl Nil w).alloc (.cells #[.int .i64 o.kind, .int .i64 o.die, .int .i64 o.block, .int .i64 o.page, .slice o.a o.data.length o.c] 46)
  have hT := h.nil hk0
  have hOB := heap_alloc_new w (.cells #[.int .i64 o.kind, .int .i64 o.die, .int .i64 o.block, .int .i64 o.page, .slice o.a o.data.length o.c] 46)
  have hnums := ho.nums.keeps hk0 (fun _ _ h => h)
  obtain ⟨hkb, hdb, hbb, hpb, _, _, hcap, hlen, _⟩ := ho
  obtain ⟨kind, die, block, page, oa, oc, data⟩ := o
  simp only at hkb hdb hbb hpb hcap hlen hOB hT hk0 hnums ⊢
  obtain ⟨wa, hwa⟩ : ∃ wa, w.alloc (.cells #[.int .i64 kind, .int .i64 die, .int .i64 block, .int .i64 page, .slice oa data.length oc] 46) = wa := ⟨_, rfl⟩
  obtain ⟨ob, hob⟩ : ∃ ob, w.heap.size = ob := ⟨_, rfl⟩
  rw [hwa] at hOB hT hk0 hnums
  rw [hob] at hOB
  have hD := Lib.hid (fun W => picked43 die A.S.dies W hdb.1 hdb.2 (by have := hS.d1; omega))
  have hB := Lib.hid (fun W => picked43 block A.S.blocks W hbb.1 hbb.2 (by have := hS.b1; omega))
  have hPg := Lib.hid (fun W => picked43 page A.S.pages W hpb.1 hpb.2 (by have := hS.p1; omega))
  obtain ⟨d, hd⟩ : ∃ d, pickI die A.S.dies = d := ⟨_, rfl⟩
  obtain ⟨n, hn⟩ : ∃ n, pickI block A.S.blocks = n := ⟨_, rfl⟩
  obtain ⟨p, hp⟩ : ∃ p, pickI page A.S.pages = p := ⟨_, rfl⟩
  rw [hd] at hD
  rw [hn] at hB
  rw [hp] at hPg
  clear hd hn hp
  obtain ⟨q, hq, q1, q2⟩ := mod_nat 9 (by decide) (absI_nonneg kind)
  obtain ⟨r, hr, r1, r2⟩ := mod_nat 97 (by decide) (absI_nonneg kind)
  rw [show ((9 : Nat) : Int) = 9 from rfl] at q1 q2
  rw [show ((97 : Nat) : Int) = 97 from rfl] at r1 r2
  obtain ⟨k, hk⟩ : ∃ k, absI kind = k := ⟨_, rfl⟩
  have hz : (kind < 0 ∧ -(kind + 1) = k) ∨ (¬ kind < 0 ∧ kind = k) := by
    rw [← hk]
    unfold absI
    by_cases h : kind < 0
    · rw [if_pos h]; exact .inl ⟨h, rfl⟩
    · rw [if_neg h]; exact .inr ⟨h, rfl⟩
  have hkk : 0 ≤ k ∧ k ≤ 9223372036854775807 := by rw [← hk]; exact ⟨absI_nonneg kind, by unfold absI; split <;> omega⟩
  rw [hk] at q1 q2 r1 r2
  have c0 := cell_of_heap hOB 0
  have c1 := cell_of_heap hOB 1
  have c2 := cell_of_heap hOB 2
  have c3 := cell_of_heap hOB 3
  have c4 := cell_of_heap hOB 4
  have s0 := RfB.cell hT.r.q 0
  have s1 := RfB.cell hT.r.q 1
  have s2 := RfB.cell hT.r.q 2
  have s3 := RfB.cell hT.r.q 3
  simp only [rfCells, List.getElem?_toArray, List.getElem?_cons_zero, List.getElem?_cons_succ] at c0 c1 c2 c3 c4 s0 s1 s2 s3
  have hT' := Lib.hid (hT.nil (((Keeps.refl Nil wa).drew).drew.drew))
  have hnums' := Lib.hid (hnums.keeps (((Keeps.refl Nil wa).drew).drew.drew) (fun _ _ h => h))
  have hwa' := Lib.hid hwa
  have hOB' := Lib.hid hOB
  have hS' := Lib.hid hS
  have hb' := Lib.hid hb
  have hlen' := Lib.hid hlen
  obtain ⟨D, hDD⟩ : ∃ D, A.S.dies = D := ⟨_, rfl⟩
  obtain ⟨N, hNN⟩ : ∃ N, A.S.blocks = N := ⟨_, rfl⟩
  obtain ⟨M, hMM⟩ : ∃ M, A.S.pages = M := ⟨_, rfl⟩
  obtain ⟨Z, hZZ⟩ : ∃ Z, A.S.bytes = Z := ⟨_, rfl⟩
  rw [hDD] at s0 hD
  rw [hNN] at s1 hB
  rw [hMM] at s2 hPg
  rw [hZZ] at s3
  have hMM' := Lib.hid hMM
  have hZZ' := Lib.hid hZZ
  have hC := Lib.hid (show ∀ W, Keeps Nil wa W → W.cell? ⟨ob, 0, none⟩ = some (.int .i64 kind) ∧ W.cell? ⟨ob, 1, none⟩ = some (.int .i64 die) ∧ W.cell? ⟨ob, 2, none⟩ = some (.int .i64 block) ∧ W.cell? ⟨ob, 3, none⟩ = some (.int .i64 page) ∧ W.cell? ⟨ob, 4, none⟩ = some (.slice oa data.length oc) ∧ W.cell? ⟨P.rb, 0, none⟩ = some (.int .i64 (D : Nat)) ∧ W.cell? ⟨P.rb, 1, none⟩ = some (.int .i64 (N : Nat)) ∧ W.cell? ⟨P.rb, 2, none⟩ = some (.int .i64 (M : Nat)) ∧ W.cell? ⟨P.rb, 3, none⟩ = some (.int .i64 (Z : Nat)) from fun W hW => ⟨hW.cell c0 (fun h => h), hW.cell c1 (fun h => h), hW.cell c2 (fun h => h), hW.cell c3 (fun h => h), hW.cell c4 (fun h => h), hW.cell s0 (fun h => h), hW.cell s1 (fun h => h), hW.cell s2 (fun h => h), hW.cell s3 (fun h => h)⟩)
  clear c0 c1 c2 c3 c4 s0 s1 s2 s3
  clear hT hk0 hnums h hOB hS hb hdb hbb hpb hk hDD hNN hMM hZZ hcap
  go_enter Try.func23, Try.ntmps23
  go_upto_region 1 with (fail)
  refine wp_region_held_drew (S := fun W => W.cell? ⟨ob, 0, none⟩ = some (.int .i64 kind) ∧ W.cell? ⟨ob, 1, none⟩ = some (.int .i64 die) ∧ W.cell? ⟨ob, 2, none⟩ = some (.int .i64 block) ∧ W.cell? ⟨ob, 3, none⟩ = some (.int .i64 page) ∧ W.cell? ⟨ob, 4, none⟩ = some (.slice oa data.length oc) ∧ W.cell? ⟨P.rb, 0, none⟩ = some (.int .i64 (D : Nat)) ∧ W.cell? ⟨P.rb, 1, none⟩ = some (.int .i64 (N : Nat)) ∧ W.cell? ⟨P.rb, 2, none⟩ = some (.int .i64 (M : Nat)) ∧ W.cell? ⟨P.rb, 3, none⟩ = some (.int .i64 (Z : Nat))) (by kernel_rfl) ?q1a (fun hHeld => ?q1b)
  case q1a => (try dsimp only); exact hC.out _ (by repeat (first | exact Keeps.refl Nil wa | apply Keeps.drew))
  case q1b =>
    refine wpAnyH_take (i := 0) (oi := _) (v := ?q1_1v) rfl (by kernel_rfl) (by kernel_rfl) (by kernel_rfl) (fun _ _ _ h => h) (Or.inl ⟨by rfl, ?q1_1y⟩) (by assumption) ?q1_1r
    case q1_1y => (intro w0 hSw; (try dsimp only at hSw); go_simp; try (with_reducible rfl))
    case q1_1r =>
      simp only [Act.put, List.getElem_toArray, List.getElem_cons_zero, List.setIfInBounds_toArray, List.set_cons_zero, List.set_cons_succ]
      refine wpAnyH_take (i := 1) (oi := _) (v := ?q1_2v) rfl (by kernel_rfl) (by kernel_rfl) (by kernel_rfl) (fun _ _ _ h => h) (Or.inl ⟨by rfl, ?q1_2y⟩) (by assumption) ?q1_2r
      case q1_2y => (intro w0 hSw; (try dsimp only at hSw); go_simp; try (with_reducible rfl))
      case q1_2r =>
        simp only [Act.put, List.getElem_toArray, List.getElem_cons_succ, List.getElem_cons_zero, List.setIfInBounds_toArray, List.set_cons_zero, List.set_cons_succ]
        refine wpAnyH_take (i := 2) (oi := _) (v := ?q1_3v) rfl (by kernel_rfl) (by kernel_rfl) (by kernel_rfl) (fun _ _ _ h => h) (Or.inl ⟨by rfl, ?q1_3y⟩) (by assumption) ?q1_3r
        case q1_3y => (intro w0 hSw; (try dsimp only at hSw); go_simp; try (with_reducible rfl))
        case q1_3r =>
          simp only [Act.put, List.getElem_toArray, List.getElem_cons_succ, List.getElem_cons_zero, List.setIfInBounds_toArray, List.set_cons_zero, List.set_cons_succ]
          refine wpAnyH_take (i := 3) (oi := _) (v := ?q1_4v) rfl (by kernel_rfl) (by kernel_rfl) (by kernel_rfl) (fun _ _ _ h => h) (Or.inl ⟨by rfl, ?q1_4y⟩) (by assumption) ?q1_4r
          case q1_4y => (intro w0 hSw; (try dsimp only at hSw); go_simp; try (with_reducible rfl))
          case q1_4r =>
            simp only [Act.put, List.getElem_toArray, List.getElem_cons_succ, List.getElem_cons_zero, List.setIfInBounds_toArray, List.set_cons_zero, List.set_cons_succ]
            refine wpAnyH_take (i := 4) (oi := _) (v := ?q1_5v) rfl (by kernel_rfl) (by kernel_rfl) (by kernel_rfl) (fun _ _ _ h => h) (Or.inl ⟨by rfl, ?q1_5y⟩) (by assumption) ?q1_5r
            case q1_5y => (intro w0 hSw; (try dsimp only at hSw); go_simp; try (with_reducible rfl))
            case q1_5r =>
              simp only [Act.put, List.getElem_toArray, List.getElem_cons_succ, List.getElem_cons_zero, List.setIfInBounds_toArray, List.set_cons_zero, List.set_cons_succ]
              refine wpAnyH_take (i := 5) (oi := _) (v := ?q1_6v) rfl (by kernel_rfl) (by kernel_rfl) (by kernel_rfl) (fun _ _ _ h => h) (Or.inl ⟨by rfl, ?q1_6y⟩) (by assumption) ?q1_6r
              case q1_6y => (intro w0 hSw; (try dsimp only at hSw); go_simp; try (with_reducible rfl))
              case q1_6r =>
                simp only [Act.put, List.getElem_toArray, List.getElem_cons_succ, List.getElem_cons_zero, List.setIfInBounds_toArray, List.set_cons_zero, List.set_cons_succ]
                refine wpAnyH_take (i := 6) (oi := _) (v := ?q1_7v) rfl (by kernel_rfl) (by kernel_rfl) (by kernel_rfl) (fun _ _ _ h => h) (Or.inl ⟨by rfl, ?q1_7y⟩) (by assumption) ?q1_7r
                case q1_7y => (intro w0 hSw; (try dsimp only at hSw); go_simp; try (with_reducible rfl))
                case q1_7r =>
                  simp only [Act.put, List.getElem_toArray, List.getElem_cons_succ, List.getElem_cons_zero, List.setIfInBounds_toArray, List.set_cons_zero, List.set_cons_succ]
                  refine wpAnyH_ready (rs := [7]) (by kernel_rfl) (by simp) ?q1_8g
                  case q1_8g =>
                    refine AllReadyH.cons (o := _) rfl (fun K hK => ?q1_8k) AllReadyH.nil
                    case q1_8k =>
                      go_simp
                      ((with_reducible refine (hD.out _).mono ?_); rintro e w9 ⟨rfl, h9⟩; rw [h9]; clear h9 w9)
                      refine hK.out _ _ ?q1_8s (fun hHeld => ?q1_8t)
                      case q1_8s => (try dsimp only); exact hC.out _ (by repeat (first | exact Keeps.refl Nil wa | apply Keeps.drew))
                      case q1_8t =>
                        clear hK K
                        try simp only [Act.put, List.getElem_toArray, List.getElem_cons_succ, List.getElem_cons_zero, List.setIfInBounds_toArray, List.set_cons_zero, List.set_cons_succ]
                        refine wpAnyH_take (i := 8) (oi := _) (v := ?q1_9v) rfl (by kernel_rfl) (by kernel_rfl) (by kernel_rfl) (fun _ _ _ h => h) (Or.inl ⟨by rfl, ?q1_9y⟩) (by assumption) ?q1_9r
                        case q1_9y => (intro w0 hSw; (try dsimp only at hSw); go_simp; try (with_reducible rfl))
                        case q1_9r =>
                          simp only [Act.put, List.getElem_toArray, List.getElem_cons_succ, List.getElem_cons_zero, List.setIfInBounds_toArray, List.set_cons_zero, List.set_cons_succ]
                          refine wpAnyH_done (by kernel_rfl) ?q1z _
                          case q1z =>
                            go_upto_region 2 with (fail)
                            refine wp_region_held_drew (S := fun W => W.cell? ⟨ob, 0, none⟩ = some (.int .i64 kind) ∧ W.cell? ⟨ob, 1, none⟩ = some (.int .i64 die) ∧ W.cell? ⟨ob, 2, none⟩ = some (.int .i64 block) ∧ W.cell? ⟨ob, 3, none⟩ = some (.int .i64 page) ∧ W.cell? ⟨ob, 4, none⟩ = some (.slice oa data.length oc) ∧ W.cell? ⟨P.rb, 0, none⟩ = some (.int .i64 (D : Nat)) ∧ W.cell? ⟨P.rb, 1, none⟩ = some (.int .i64 (N : Nat)) ∧ W.cell? ⟨P.rb, 2, none⟩ = some (.int .i64 (M : Nat)) ∧ W.cell? ⟨P.rb, 3, none⟩ = some (.int .i64 (Z : Nat))) (by kernel_rfl) ?q2a (fun hHeld => ?q2b)
                            case q2a => (try dsimp only); exact hC.out _ (by repeat (first | exact Keeps.refl Nil wa | apply Keeps.drew))
                            case q2b =>
                              refine wpAnyH_take (i := 0) (oi := _) (v := ?q2_1v) rfl (by kernel_rfl) (by kernel_rfl) (by kernel_rfl) (fun _ _ _ h => h) (Or.inl ⟨by rfl, ?q2_1y⟩) (by assumption) ?q2_1r
                              case q2_1y => (intro w0 hSw; (try dsimp only at hSw); go_simp; try (with_reducible rfl))
                              case q2_1r =>
                                simp only [Act.put, List.getElem_toArray, List.getElem_cons_zero, List.setIfInBounds_toArray, List.set_cons_zero, List.set_cons_succ]
                                refine wpAnyH_take (i := 1) (oi := _) (v := ?q2_2v) rfl (by kernel_rfl) (by kernel_rfl) (by kernel_rfl) (fun _ _ _ h => h) (Or.inl ⟨by rfl, ?q2_2y⟩) (by assumption) ?q2_2r
                                case q2_2y => (intro w0 hSw; (try dsimp only at hSw); go_simp; try (with_reducible rfl))
                                case q2_2r =>
                                  simp only [Act.put, List.getElem_toArray, List.getElem_cons_succ, List.getElem_cons_zero, List.setIfInBounds_toArray, List.set_cons_zero, List.set_cons_succ]
                                  refine wpAnyH_take (i := 2) (oi := _) (v := ?q2_3v) rfl (by kernel_rfl) (by kernel_rfl) (by kernel_rfl) (fun _ _ _ h => h) (Or.inl ⟨by rfl, ?q2_3y⟩) (by assumption) ?q2_3r
                                  case q2_3y => (intro w0 hSw; (try dsimp only at hSw); go_simp; try (with_reducible rfl))
                                  case q2_3r =>
                                    simp only [Act.put, List.getElem_toArray, List.getElem_cons_succ, List.getElem_cons_zero, List.setIfInBounds_toArray, List.set_cons_zero, List.set_cons_succ]
                                    refine wpAnyH_take (i := 3) (oi := _) (v := ?q2_4v) rfl (by kernel_rfl) (by kernel_rfl) (by kernel_rfl) (fun _ _ _ h => h) (Or.inl ⟨by rfl, ?q2_4y⟩) (by assumption) ?q2_4r
                                    case q2_4y => (intro w0 hSw; (try dsimp only at hSw); go_simp; try (with_reducible rfl))
                                    case q2_4r =>
                                      simp only [Act.put, List.getElem_toArray, List.getElem_cons_succ, List.getElem_cons_zero, List.setIfInBounds_toArray, List.set_cons_zero, List.set_cons_succ]
                                      refine wpAnyH_take (i := 4) (oi := _) (v := ?q2_5v) rfl (by kernel_rfl) (by kernel_rfl) (by kernel_rfl) (fun _ _ _ h => h) (Or.inl ⟨by rfl, ?q2_5y⟩) (by assumption) ?q2_5r
                                      case q2_5y => (intro w0 hSw; (try dsimp only at hSw); go_simp; try (with_reducible rfl))
                                      case q2_5r =>
                                        simp only [Act.put, List.getElem_toArray, List.getElem_cons_succ, List.getElem_cons_zero, List.setIfInBounds_toArray, List.set_cons_zero, List.set_cons_succ]
                                        refine wpAnyH_take (i := 5) (oi := _) (v := ?q2_6v) rfl (by kernel_rfl) (by kernel_rfl) (by kernel_rfl) (fun _ _ _ h => h) (Or.inl ⟨by rfl, ?q2_6y⟩) (by assumption) ?q2_6r
                                        case q2_6y => (intro w0 hSw; (try dsimp only at hSw); go_simp; try (with_reducible rfl))
                                        case q2_6r =>
                                          simp only [Act.put, List.getElem_toArray, List.getElem_cons_succ, List.getElem_cons_zero, List.setIfInBounds_toArray, List.set_cons_zero, List.set_cons_succ]
                                          refine wpAnyH_take (i := 6) (oi := _) (v := ?q2_7v) rfl (by kernel_rfl) (by kernel_rfl) (by kernel_rfl) (fun _ _ _ h => h) (Or.inl ⟨by rfl, ?q2_7y⟩) (by assumption) ?q2_7r
                                          case q2_7y => (intro w0 hSw; (try dsimp only at hSw); go_simp; try (with_reducible rfl))
                                          case q2_7r =>
                                            simp only [Act.put, List.getElem_toArray, List.getElem_cons_succ, List.getElem_cons_zero, List.setIfInBounds_toArray, List.set_cons_zero, List.set_cons_succ]
                                            refine wpAnyH_ready (rs := [7]) (by kernel_rfl) (by simp) ?q2_8g
                                            case q2_8g =>
                                              refine AllReadyH.cons (o := _) rfl (fun K hK => ?q2_8k) AllReadyH.nil
                                              case q2_8k =>
                                                go_simp
                                                ((with_reducible refine (hB.out _).mono ?_); rintro e w9 ⟨rfl, h9⟩; rw [h9]; clear h9 w9)
                                                refine hK.out _ _ ?q2_8s (fun hHeld => ?q2_8t)
                                                case q2_8s => (try dsimp only); exact hC.out _ (by repeat (first | exact Keeps.refl Nil wa | apply Keeps.drew))
                                                case q2_8t =>
                                                  clear hK K
                                                  try simp only [Act.put, List.getElem_toArray, List.getElem_cons_succ, List.getElem_cons_zero, List.setIfInBounds_toArray, List.set_cons_zero, List.set_cons_succ]
                                                  refine wpAnyH_take (i := 8) (oi := _) (v := ?q2_9v) rfl (by kernel_rfl) (by kernel_rfl) (by kernel_rfl) (fun _ _ _ h => h) (Or.inl ⟨by rfl, ?q2_9y⟩) (by assumption) ?q2_9r
                                                  case q2_9y => (intro w0 hSw; (try dsimp only at hSw); go_simp; try (with_reducible rfl))
                                                  case q2_9r =>
                                                    simp only [Act.put, List.getElem_toArray, List.getElem_cons_succ, List.getElem_cons_zero, List.setIfInBounds_toArray, List.set_cons_zero, List.set_cons_succ]
                                                    refine wpAnyH_done (by kernel_rfl) ?q2z _
                                                    case q2z =>
                                                      go_upto_region 3 with (fail)
                                                      refine wp_region_held_drew (S := fun W => W.cell? ⟨ob, 0, none⟩ = some (.int .i64 kind) ∧ W.cell? ⟨ob, 1, none⟩ = some (.int .i64 die) ∧ W.cell? ⟨ob, 2, none⟩ = some (.int .i64 block) ∧ W.cell? ⟨ob, 3, none⟩ = some (.int .i64 page) ∧ W.cell? ⟨ob, 4, none⟩ = some (.slice oa data.length oc) ∧ W.cell? ⟨P.rb, 0, none⟩ = some (.int .i64 (D : Nat)) ∧ W.cell? ⟨P.rb, 1, none⟩ = some (.int .i64 (N : Nat)) ∧ W.cell? ⟨P.rb, 2, none⟩ = some (.int .i64 (M : Nat)) ∧ W.cell? ⟨P.rb, 3, none⟩ = some (.int .i64 (Z : Nat))) (by kernel_rfl) ?q3a (fun hHeld => ?q3b)
                                                      case q3a => (try dsimp only); exact hC.out _ (by repeat (first | exact Keeps.refl Nil wa | apply Keeps.drew))
                                                      case q3b =>
                                                        refine wpAnyH_take (i := 0) (oi := _) (v := ?q3_1v) rfl (by kernel_rfl) (by kernel_rfl) (by kernel_rfl) (fun _ _ _ h => h) (Or.inl ⟨by rfl, ?q3_1y⟩) (by assumption) ?q3_1r
                                                        case q3_1y => (intro w0 hSw; (try dsimp only at hSw); go_simp; try (with_reducible rfl))
                                                        case q3_1r =>
                                                          simp only [Act.put, List.getElem_toArray, List.getElem_cons_zero, List.setIfInBounds_toArray, List.set_cons_zero, List.set_cons_succ]
                                                          refine wpAnyH_take (i := 1) (oi := _) (v := ?q3_2v) rfl (by kernel_rfl) (by kernel_rfl) (by kernel_rfl) (fun _ _ _ h => h) (Or.inl ⟨by rfl, ?q3_2y⟩) (by assumption) ?q3_2r
                                                          case q3_2y => (intro w0 hSw; (try dsimp only at hSw); go_simp; try (with_reducible rfl))
                                                          case q3_2r =>
                                                            simp only [Act.put, List.getElem_toArray, List.getElem_cons_succ, List.getElem_cons_zero, List.setIfInBounds_toArray, List.set_cons_zero, List.set_cons_succ]
                                                            refine wpAnyH_take (i := 2) (oi := _) (v := ?q3_3v) rfl (by kernel_rfl) (by kernel_rfl) (by kernel_rfl) (fun _ _ _ h => h) (Or.inl ⟨by rfl, ?q3_3y⟩) (by assumption) ?q3_3r
                                                            case q3_3y => (intro w0 hSw; (try dsimp only at hSw); go_simp; try (with_reducible rfl))
                                                            case q3_3r =>
                                                              simp only [Act.put, List.getElem_toArray, List.getElem_cons_succ, List.getElem_cons_zero, List.setIfInBounds_toArray, List.set_cons_zero, List.set_cons_succ]
                                                              refine wpAnyH_take (i := 3) (oi := _) (v := ?q3_4v) rfl (by kernel_rfl) (by kernel_rfl) (by kernel_rfl) (fun _ _ _ h => h) (Or.inl ⟨by rfl, ?q3_4y⟩) (by assumption) ?q3_4r
                                                              case q3_4y => (intro w0 hSw; (try dsimp only at hSw); go_simp; try (with_reducible rfl))
                                                              case q3_4r =>
                                                                simp only [Act.put, List.getElem_toArray, List.getElem_cons_succ, List.getElem_cons_zero, List.setIfInBounds_toArray, List.set_cons_zero, List.set_cons_succ]
                                                                refine wpAnyH_take (i := 4) (oi := _) (v := ?q3_5v) rfl (by kernel_rfl) (by kernel_rfl) (by kernel_rfl) (fun _ _ _ h => h) (Or.inl ⟨by rfl, ?q3_5y⟩) (by assumption) ?q3_5r
                                                                case q3_5y => (intro w0 hSw; (try dsimp only at hSw); go_simp; try (with_reducible rfl))
                                                                case q3_5r =>
                                                                  simp only [Act.put, List.getElem_toArray, List.getElem_cons_succ, List.getElem_cons_zero, List.setIfInBounds_toArray, List.set_cons_zero, List.set_cons_succ]
                                                                  refine wpAnyH_take (i := 5) (oi := _) (v := ?q3_6v) rfl (by kernel_rfl) (by kernel_rfl) (by kernel_rfl) (fun _ _ _ h => h) (Or.inl ⟨by rfl, ?q3_6y⟩) (by assumption) ?q3_6r
                                                                  case q3_6y => (intro w0 hSw; (try dsimp only at hSw); go_simp; try (with_reducible rfl))
                                                                  case q3_6r =>
                                                                    simp only [Act.put, List.getElem_toArray, List.getElem_cons_succ, List.getElem_cons_zero, List.setIfInBounds_toArray, List.set_cons_zero, List.set_cons_succ]
                                                                    refine wpAnyH_take (i := 6) (oi := _) (v := ?q3_7v) rfl (by kernel_rfl) (by kernel_rfl) (by kernel_rfl) (fun _ _ _ h => h) (Or.inl ⟨by rfl, ?q3_7y⟩) (by assumption) ?q3_7r
                                                                    case q3_7y => (intro w0 hSw; (try dsimp only at hSw); go_simp; try (with_reducible rfl))
                                                                    case q3_7r =>
                                                                      simp only [Act.put, List.getElem_toArray, List.getElem_cons_succ, List.getElem_cons_zero, List.setIfInBounds_toArray, List.set_cons_zero, List.set_cons_succ]
                                                                      refine wpAnyH_ready (rs := [7]) (by kernel_rfl) (by simp) ?q3_8g
                                                                      case q3_8g =>
                                                                        refine AllReadyH.cons (o := _) rfl (fun K hK => ?q3_8k) AllReadyH.nil
                                                                        case q3_8k =>
                                                                          go_simp
                                                                          ((with_reducible refine (hPg.out _).mono ?_); rintro e w9 ⟨rfl, h9⟩; rw [h9]; clear h9 w9)
                                                                          refine hK.out _ _ ?q3_8s (fun hHeld => ?q3_8t)
                                                                          case q3_8s => (try dsimp only); exact hC.out _ (by repeat (first | exact Keeps.refl Nil wa | apply Keeps.drew))
                                                                          case q3_8t =>
                                                                            clear hK K
                                                                            try simp only [Act.put, List.getElem_toArray, List.getElem_cons_succ, List.getElem_cons_zero, List.setIfInBounds_toArray, List.set_cons_zero, List.set_cons_succ]
                                                                            refine wpAnyH_take (i := 8) (oi := _) (v := ?q3_9v) rfl (by kernel_rfl) (by kernel_rfl) (by kernel_rfl) (fun _ _ _ h => h) (Or.inl ⟨by rfl, ?q3_9y⟩) (by assumption) ?q3_9r
                                                                            case q3_9y => (intro w0 hSw; (try dsimp only at hSw); go_simp; try (with_reducible rfl))
                                                                            case q3_9r =>
                                                                              simp only [Act.put, List.getElem_toArray, List.getElem_cons_succ, List.getElem_cons_zero, List.setIfInBounds_toArray, List.set_cons_zero, List.set_cons_succ]
                                                                              refine wpAnyH_done (by kernel_rfl) ?q3z _
                                                                              case q3z =>
                                                                                clear hwa hob hD hB hPg
                                                                                obtain ⟨w3, hw3⟩ : ∃ w3, wa.drew.drew.drew = w3 := ⟨_, rfl⟩
                                                                                rw [hw3] at hT' hnums' ⊢
                                                                                obtain ⟨c0, _, _, _, c4, _, _, _, s3⟩ := hC.out w3 (by rw [← hw3]; exact (((Keeps.refl Nil wa).drew).drew.drew))
                                                                                have hC2 := Lib.hid (show ∀ W, Keeps Nil w3 W → W.cell? ⟨P.rb, 2, none⟩ = some (.int .i64 (M : Nat)) ∧ W.cell? ⟨P.rb, 3, none⟩ = some (.int .i64 (Z : Nat)) ∧ W.cell? ⟨ob, 4, none⟩ = some (.slice oa data.length oc) from fun W hW => by
                                                                                  obtain ⟨_, _, _, _, a, _, _, b, c⟩ := hC.out W ((by rw [← hw3]; exact (((Keeps.refl Nil wa).drew).drew.drew) : Keeps Nil wa w3).trans hW)
                                                                                  exact ⟨b, c, a⟩)
                                                                                clear hw3 hC
                                                                                go_upto_if 49 with (fail)
                                                                                go_cut [10] (fun v wx => v = .int .i64 k ∧ w3 = wx)
                                                                                case first =>
                                                                                  rcases hz with ⟨z1, z2⟩ | ⟨z1, z2⟩
                                                                                  · go_wp2_with fail
                                                                                    go_meet
                                                                                    exact ⟨rfl, rfl⟩
                                                                                  · subst z2
                                                                                    go_wp2_with fail
                                                                                    go_meet
                                                                                    exact ⟨rfl, rfl⟩
                                                                                case rest =>
                                                                                obtain ⟨rfl, rfl⟩ := hcut
                                                                                clear hz c0 hkb
                                                                                have hqc : q ≤ 3 ∨ q = 4 ∨ q = 5 ∨ 6 ≤ q := by omega
                                                                                go_upto_block 0 with (fail)
                                                                                rcases hqc with hq3 | rfl | rfl | hq6
                                                                                · as_aux_lemma =>
                                                                                  go_upto_if 55 with (fail)
                                                                                  go_cut [55] (fun v wx => v = .bool true ∧ w3 = wx)
                                                                                  case first =>
                                                                                    have hqd : q = 0 ∨ q = 1 ∨ q = 2 ∨ q = 3 := by omega
                                                                                    rcases hqd with rfl | rfl | rfl | rfl
                                                                                    all_goals
                                                                                      go_wp2_with fail
                                                                                      go_meet
                                                                                      exact ⟨rfl, rfl⟩
                                                                                  case rest =>
                                                                                  obtain ⟨rfl, rfl⟩ := hcut
                                                                                  have hNx := Lib.hid (next44 hT'.out.r.q hS'.out d n)
                                                                                  go_wp2_with fail
                                                                                  refine (hNx.out).mono ?_
                                                                                  rintro e w4 ⟨rfl, k4⟩
                                                                                  obtain ⟨nx, hnx⟩ : ∃ nx, A.nextI d n = nx := ⟨_, rfl⟩
                                                                                  rw [hnx]
                                                                                  have hT4 := Lib.hid (hT'.out.nil k4)
                                                                                  have hn4 := Lib.hid (hnums'.out.keeps k4 (fun _ _ h => h))
                                                                                  have hC4 := Lib.hid (fun W hW => hC2.out W (k4.trans hW))
                                                                                  obtain ⟨m2, m3, m4⟩ := hC4.out w4 (Keeps.refl Nil w4)
                                                                                  clear hnx k4 hNx c4 s3
                                                                                  have hnc : (nx < 0) ∨ (0 ≤ nx ∧ (M : Int) ≤ nx) ∨ (0 ≤ nx ∧ nx < (M : Int) ∧ q = 3) ∨ (0 ≤ nx ∧ nx < (M : Int) ∧ q ≤ 2) := by omega
                                                                                  rcases hnc with a1 | ⟨a1, a2⟩ | ⟨a1, a2, rfl⟩ | ⟨a1, a2, a3⟩
                                                                                  case inr.inr.inr =>
                                                                                    have e3 : ((q : Int) != 3) = true := by simp only [bne_iff_ne, ne_eq]; omega
                                                                                    have e4 : ((q : Int) == 3) = false := by simp only [beq_eq_false_iff_ne, ne_eq]; omega
                                                                                    have e5 : ¬ ((q : Int) = 3) := by omega
                                                                                    go_upto_region 15 with (fail)
                                                                                    obtain ⟨p', hp'⟩ : ∃ p', nx = p' := ⟨_, rfl⟩
                                                                                    rw [hp']
                                                                                    clear hp'
                                                                                    have hFl := Lib.hid (filled17 (w := w4.drew) (xc := oc) Z (by have := hS'.out.n2; have := hZZ'.out; omega) (hn4.out.keeps (Keeps.refl Nil w4).drew (fun _ _ h => h)) rfl hlen'.out)
                                                                                    go_region_held3 (fun W => W.cell? ⟨P.rb, 2, none⟩ = some (.int .i64 (M : Nat)) ∧ W.cell? ⟨P.rb, 3, none⟩ = some (.int .i64 (Z : Nat)) ∧ W.cell? ⟨ob, 4, none⟩ = some (.slice oa data.length oc)) (first | exact hC4.out _ (Keeps.refl Nil w4).drew | exact hC4.out _ k5.out) ((go_at_call 17; (with_reducible refine (hFl.out).mono ?_); rintro e w5 ⟨a5, c5, rfl, hr5, k5, hn5⟩; have k5 := Lib.hid ((Keeps.refl Nil w4).drew.trans k5); have hr5' := Lib.hid hr5; have hn5' := Lib.hid hn5; clear hr5 hn5))
                                                                                    obtain ⟨y, rfl⟩ : ∃ y, a5 = some ⟨y, 0, none⟩ := by
                                                                                      rcases RowAt.form hr5'.out with ⟨_, h1, _⟩ | ⟨y, _, h1, _⟩
                                                                                      · rw [filL_len] at h1; have := hS'.out.n1; have := hZZ'.out; omega
                                                                                      · exact ⟨y, h1⟩
                                                                                    have hZc : Z ≤ c5 := by
                                                                                      rcases RowAt.form hr5'.out with ⟨_, h1, _⟩ | ⟨y, _, _, h1, _⟩
                                                                                      · rw [filL_len] at h1; have := hS'.out.n1; have := hZZ'.out; omega
                                                                                      · rwa [filL_len] at h1
                                                                                    have hZ1 : 1 ≤ Z := by have := hS'.out.n1; have := hZZ'.out; omega
                                                                                    have hZ4 : Z ≤ 4096 := by have := hS'.out.n2; have := hZZ'.out; omega
                                                                                    have hX0 : XIn w4 w5 y 0 Z c5 (filL data Z) := ⟨hr5'.out.nums, filL_len _ _, hZc, by have := NumRow.win hr5'.out; rwa [filL_len] at this, hn5'.out y rfl, by omega⟩
                                                                                    have hX1 : XIn w4 w5 y 1 (Z - 1) (c5 - 1) ((filL data Z).drop 1) := ⟨hX0.nums.drop1, by rw [List.length_drop, filL_len], by omega, by
                                                                                      obtain ⟨cs, h1, h2⟩ := hX0.win
                                                                                      exact ⟨cs, h1, by omega⟩, hX0.lo, by omega⟩
                                                                                    have hX0' := Lib.hid hX0
                                                                                    have hX1' := Lib.hid hX1
                                                                                    clear hX0 hX1 hFl m2 m3 m4
                                                                                    go_upto_if 91 with (fail)
                                                                                    go_cut [12] (fun v wx => ∃ (xo n' c : Nat) (l : List Int), v = .slice (some ⟨y, xo, none⟩) n' c ∧ Hid (XIn w4 w5 y xo n' c l) ∧ w5 = wx)
                                                                                    case first =>
                                                                                      by_cases hr3 : r = 3
                                                                                      · subst hr3
                                                                                        go_wp2_with fail
                                                                                        all_goals
                                                                                          go_meet
                                                                                          first
                                                                                            | exact ⟨1, Z - 1, c5 - 1, _, rfl, hX1', rfl⟩
                                                                                            | exact ⟨0, Z - 1, 0, [], rfl, Lib.hid ⟨fun j hj => absurd hj (Nat.not_lt_zero _), (show 0 = Z - 1 by omega), (show Z - 1 ≤ 0 by omega), (by
                                                                                                obtain ⟨cs, h1, h2⟩ := hX1'.out.win
                                                                                                exact ⟨cs, h1, by omega⟩), hX1'.out.lo, (by omega)⟩, rfl⟩
                                                                                      · have e3 : ((r : Int) == 3) = false := by simp only [beq_eq_false_iff_ne, ne_eq]; omega
                                                                                        go_wp2_with fail
                                                                                        go_meet
                                                                                        exact ⟨0, Z, c5, _, rfl, hX0', rfl⟩
                                                                                    case rest =>
                                                                                    obtain ⟨xo, xn, xc, xl, rfl, hX, rfl⟩ := hcut
                                                                                    clear hX0' hX1' hr5' hn5'
                                                                                    have hT5 := Lib.hid (hT4.out.nil k5.out)
                                                                                    have hX' := hX
                                                                                    clear hX
                                                                                    have hxl : xl.length = xn := hX'.out.len
                                                                                    have hPa0 := programI_any (w1 := w4) (xc := xc) hT4.out.a (by have := hb'.out; omega) k5.out d n p' hX'.out.nums (fun g hg => by cases hg; exact .inr hX'.out.lo) (by rw [hxl]; exact hX'.out.cap)
                                                                                    rw [hxl] at hPa0
                                                                                    have hPa := Lib.hid hPa0
                                                                                    clear hPa0
                                                                                    clear hZc hZ1 hZ4
                                                                                    clear r1 r2 hr
                                                                                    have hxl' := Lib.hid hxl
                                                                                    clear hxl
                                                                                    go_wp2_with fail
                                                                                    refine (hPa.out).mono ?_
                                                                                    rintro e w6 ⟨rfl, O6, hN6, hk6, hs6⟩
                                                                                    have hyO : ¬ O y := fun h => by have := hT4.out.a.lt h; have := hX'.out.lo; omega
                                                                                    have hyO' : ¬ O' y := fun h => by have := hT4.out.r.lt h; have := hX'.out.lo; omega
                                                                                    have hM6 := Lib.hid (hT5.out.mid hN6 hk6 hs6)
                                                                                    have hyO6 : ¬ O6 y := fun h => by
                                                                                      rcases hs6 y h with h1 | h1
                                                                                      · exact hyO h1
                                                                                      · have := hX'.out.lt; omega
                                                                                    have hW6 := hX'.out.win.keeps hk6 hyO
                                                                                    have hX6 := Lib.hid (show NumsAt .u8 w6 (some ⟨y, xo, none⟩) xl from hX'.out.nums.keeps hk6 (fun g hg => by cases hg; exact hyO))
                                                                                    have hPr0 := programR_any (xc := xc) hM6.out.r (by have := hb'.out; omega) d n p' hX6.out (fun g hg => by cases hg; exact hyO')
                                                                                    rw [hxl'.out] at hPr0
                                                                                    have hPr := Lib.hid hPr0
                                                                                    clear hPr0
                                                                                    have hyl := hX'.out.lt
                                                                                    have hy7 := Lib.hid (show y < w6.heap.size from Nat.lt_of_lt_of_le hX'.out.lt hk6.size)
                                                                                    have hlo := Lib.hid hX'.out.lo
                                                                                    have hn6c := hX'.out.n6
                                                                                    have hyO6' := Lib.hid hyO6
                                                                                    have hyO'' := Lib.hid hyO'
                                                                                    have hW6' := Lib.hid hW6
                                                                                    clear hPa hN6 hk6 hs6 hyO hyO6 hyO' hW6 hyl hX' hX6
                                                                                    go_wp2_with fail
                                                                                    refine (hPr.out).mono ?_
                                                                                    rintro e w7 ⟨rfl, O7, hN7, hk7, hs7⟩
                                                                                    have hT7 := Lib.hid (hT5.out.two hM6.out hN7 hk7 hs7)
                                                                                    have hyO7 := Lib.hid (show ¬ O7 y from fun h => by
                                                                                      rcases hs7 y h with h1 | h1
                                                                                      · exact hyO''.out h1
                                                                                      · have := hy7.out; omega)
                                                                                    have hW7 := Lib.hid (hW6'.out.keeps hk7 hyO''.out)
                                                                                    have hy0 := Lib.hid (show w0.heap.size ≤ y from Nat.le_trans hT4.out.a.keep.size hlo.out)
                                                                                    obtain ⟨cd, hcd⟩ : ∃ cd, (A.programI d n p' xl).1 = cd := ⟨_, rfl⟩
                                                                                    obtain ⟨A2, hA2⟩ : ∃ A2, (A.programI d n p' xl).2 = A2 := ⟨_, rfl⟩
                                                                                    rw [hcd]
                                                                                    rw [hA2] at hT7
                                                                                    clear hPr hN7 hk7 hs7 hW6' hcd hA2 hM6 hT5 hT4 hT'
                                                                                    go_wp2_with fail
                                                                                    go_loopw [15] (fun i wx => ∃ j : Nat, j ≤ xn ∧ i = .int .i64 j ∧ Hid (Keeps (· = y) w7 wx ∧ Win wx y xo xn)) (fun i _ => xn - (intOf i).toNat)
                                                                                    case atStart => exact ⟨0, Nat.zero_le _, rfl, Lib.hid ⟨Keeps.refl _ _, hW7.out⟩⟩
                                                                                    case round =>
                                                                                      obtain ⟨j, hj, rfl, hrel⟩ := hrel
                                                                                      by_cases hlt : j < xn
                                                                                      · obtain ⟨v, hv1, hv2⟩ := hrel.out.2.cell hlt
                                                                                        have hN := Lib.hid (And.intro (hrel.out.1.setCell (p := ⟨y, xo + j, none⟩) (.inl rfl) (.int .u8 7)) (hrel.out.2.set (i := j) (v := .int .u8 7)))
                                                                                        go_wp2_with fail
                                                                                        go_roundw
                                                                                        case rel => exact ⟨j + 1, by omega, by go_num, hN⟩
                                                                                        case measure => simp [intOf]; omega
                                                                                      · have e1 : (cd == cd) = true := by simp
                                                                                        go_wp2_with fail
                                                                                        go_ret
                                                                                        exact ⟨rfl, A2, O6, O7, hT7.out.far hrel.out.1 (fun k hk e => by subst e; exact hyO6'.out hk) (fun k hk e => by subst e; exact hyO7.out hk) (fun k hk => by rw [hk]; exact hy0.out)⟩
                                                                                  all_goals
                                                                                    go_upto_region 15 with (fail)
                                                                                    obtain ⟨p', hp'⟩ : ∃ p', p = p' := ⟨_, rfl⟩
                                                                                    rw [hp']
                                                                                    clear hp'
                                                                                    have hFl := Lib.hid (filled17 (w := w4.drew) (xc := oc) Z (by have := hS'.out.n2; have := hZZ'.out; omega) (hn4.out.keeps (Keeps.refl Nil w4).drew (fun _ _ h => h)) rfl hlen'.out)
                                                                                    go_region_held3 (fun W => W.cell? ⟨P.rb, 2, none⟩ = some (.int .i64 (M : Nat)) ∧ W.cell? ⟨P.rb, 3, none⟩ = some (.int .i64 (Z : Nat)) ∧ W.cell? ⟨ob, 4, none⟩ = some (.slice oa data.length oc)) (first | exact hC4.out _ (Keeps.refl Nil w4).drew | exact hC4.out _ k5.out) ((go_at_call 17; (with_reducible refine (hFl.out).mono ?_); rintro e w5 ⟨a5, c5, rfl, hr5, k5, hn5⟩; have k5 := Lib.hid ((Keeps.refl Nil w4).drew.trans k5); have hr5' := Lib.hid hr5; have hn5' := Lib.hid hn5; clear hr5 hn5))
                                                                                    obtain ⟨y, rfl⟩ : ∃ y, a5 = some ⟨y, 0, none⟩ := by
                                                                                      rcases RowAt.form hr5'.out with ⟨_, h1, _⟩ | ⟨y, _, h1, _⟩
                                                                                      · rw [filL_len] at h1; have := hS'.out.n1; have := hZZ'.out; omega
                                                                                      · exact ⟨y, h1⟩
                                                                                    have hZc : Z ≤ c5 := by
                                                                                      rcases RowAt.form hr5'.out with ⟨_, h1, _⟩ | ⟨y, _, _, h1, _⟩
                                                                                      · rw [filL_len] at h1; have := hS'.out.n1; have := hZZ'.out; omega
                                                                                      · rwa [filL_len] at h1
                                                                                    have hZ1 : 1 ≤ Z := by have := hS'.out.n1; have := hZZ'.out; omega
                                                                                    have hZ4 : Z ≤ 4096 := by have := hS'.out.n2; have := hZZ'.out; omega
                                                                                    have hX0 : XIn w4 w5 y 0 Z c5 (filL data Z) := ⟨hr5'.out.nums, filL_len _ _, hZc, by have := NumRow.win hr5'.out; rwa [filL_len] at this, hn5'.out y rfl, by omega⟩
                                                                                    have hX1 : XIn w4 w5 y 1 (Z - 1) (c5 - 1) ((filL data Z).drop 1) := ⟨hX0.nums.drop1, by rw [List.length_drop, filL_len], by omega, by
                                                                                      obtain ⟨cs, h1, h2⟩ := hX0.win
                                                                                      exact ⟨cs, h1, by omega⟩, hX0.lo, by omega⟩
                                                                                    have hX0' := Lib.hid hX0
                                                                                    have hX1' := Lib.hid hX1
                                                                                    clear hX0 hX1 hFl m2 m3 m4
                                                                                    go_upto_if 91 with (fail)
                                                                                    go_cut [12] (fun v wx => ∃ (xo n' c : Nat) (l : List Int), v = .slice (some ⟨y, xo, none⟩) n' c ∧ Hid (XIn w4 w5 y xo n' c l) ∧ w5 = wx)
                                                                                    case first =>
                                                                                      by_cases hr3 : r = 3
                                                                                      · subst hr3
                                                                                        go_wp2_with fail
                                                                                        all_goals
                                                                                          go_meet
                                                                                          first
                                                                                            | exact ⟨1, Z - 1, c5 - 1, _, rfl, hX1', rfl⟩
                                                                                            | exact ⟨0, Z - 1, 0, [], rfl, Lib.hid ⟨fun j hj => absurd hj (Nat.not_lt_zero _), (show 0 = Z - 1 by omega), (show Z - 1 ≤ 0 by omega), (by
                                                                                                obtain ⟨cs, h1, h2⟩ := hX1'.out.win
                                                                                                exact ⟨cs, h1, by omega⟩), hX1'.out.lo, (by omega)⟩, rfl⟩
                                                                                      · have e3 : ((r : Int) == 3) = false := by simp only [beq_eq_false_iff_ne, ne_eq]; omega
                                                                                        go_wp2_with fail
                                                                                        go_meet
                                                                                        exact ⟨0, Z, c5, _, rfl, hX0', rfl⟩
                                                                                    case rest =>
                                                                                    obtain ⟨xo, xn, xc, xl, rfl, hX, rfl⟩ := hcut
                                                                                    clear hX0' hX1' hr5' hn5'
                                                                                    have hT5 := Lib.hid (hT4.out.nil k5.out)
                                                                                    have hX' := hX
                                                                                    clear hX
                                                                                    have hxl : xl.length = xn := hX'.out.len
                                                                                    have hPa0 := programI_any (w1 := w4) (xc := xc) hT4.out.a (by have := hb'.out; omega) k5.out d n p' hX'.out.nums (fun g hg => by cases hg; exact .inr hX'.out.lo) (by rw [hxl]; exact hX'.out.cap)
                                                                                    rw [hxl] at hPa0
                                                                                    have hPa := Lib.hid hPa0
                                                                                    clear hPa0
                                                                                    clear hZc hZ1 hZ4
                                                                                    clear r1 r2 hr
                                                                                    have hxl' := Lib.hid hxl
                                                                                    clear hxl
                                                                                    go_wp2_with fail
                                                                                    refine (hPa.out).mono ?_
                                                                                    rintro e w6 ⟨rfl, O6, hN6, hk6, hs6⟩
                                                                                    have hyO : ¬ O y := fun h => by have := hT4.out.a.lt h; have := hX'.out.lo; omega
                                                                                    have hyO' : ¬ O' y := fun h => by have := hT4.out.r.lt h; have := hX'.out.lo; omega
                                                                                    have hM6 := Lib.hid (hT5.out.mid hN6 hk6 hs6)
                                                                                    have hyO6 : ¬ O6 y := fun h => by
                                                                                      rcases hs6 y h with h1 | h1
                                                                                      · exact hyO h1
                                                                                      · have := hX'.out.lt; omega
                                                                                    have hW6 := hX'.out.win.keeps hk6 hyO
                                                                                    have hX6 := Lib.hid (show NumsAt .u8 w6 (some ⟨y, xo, none⟩) xl from hX'.out.nums.keeps hk6 (fun g hg => by cases hg; exact hyO))
                                                                                    have hPr0 := programR_any (xc := xc) hM6.out.r (by have := hb'.out; omega) d n p' hX6.out (fun g hg => by cases hg; exact hyO')
                                                                                    rw [hxl'.out] at hPr0
                                                                                    have hPr := Lib.hid hPr0
                                                                                    clear hPr0
                                                                                    have hyl := hX'.out.lt
                                                                                    have hy7 := Lib.hid (show y < w6.heap.size from Nat.lt_of_lt_of_le hX'.out.lt hk6.size)
                                                                                    have hlo := Lib.hid hX'.out.lo
                                                                                    have hn6c := hX'.out.n6
                                                                                    have hyO6' := Lib.hid hyO6
                                                                                    have hyO'' := Lib.hid hyO'
                                                                                    have hW6' := Lib.hid hW6
                                                                                    clear hPa hN6 hk6 hs6 hyO hyO6 hyO' hW6 hyl hX' hX6
                                                                                    go_wp2_with fail
                                                                                    refine (hPr.out).mono ?_
                                                                                    rintro e w7 ⟨rfl, O7, hN7, hk7, hs7⟩
                                                                                    have hT7 := Lib.hid (hT5.out.two hM6.out hN7 hk7 hs7)
                                                                                    have hyO7 := Lib.hid (show ¬ O7 y from fun h => by
                                                                                      rcases hs7 y h with h1 | h1
                                                                                      · exact hyO''.out h1
                                                                                      · have := hy7.out; omega)
                                                                                    have hW7 := Lib.hid (hW6'.out.keeps hk7 hyO''.out)
                                                                                    have hy0 := Lib.hid (show w0.heap.size ≤ y from Nat.le_trans hT4.out.a.keep.size hlo.out)
                                                                                    obtain ⟨cd, hcd⟩ : ∃ cd, (A.programI d n p' xl).1 = cd := ⟨_, rfl⟩
                                                                                    obtain ⟨A2, hA2⟩ : ∃ A2, (A.programI d n p' xl).2 = A2 := ⟨_, rfl⟩
                                                                                    rw [hcd]
                                                                                    rw [hA2] at hT7
                                                                                    clear hPr hN7 hk7 hs7 hW6' hcd hA2 hM6 hT5 hT4 hT'
                                                                                    go_wp2_with fail
                                                                                    go_loopw [15] (fun i wx => ∃ j : Nat, j ≤ xn ∧ i = .int .i64 j ∧ Hid (Keeps (· = y) w7 wx ∧ Win wx y xo xn)) (fun i _ => xn - (intOf i).toNat)
                                                                                    case atStart => exact ⟨0, Nat.zero_le _, rfl, Lib.hid ⟨Keeps.refl _ _, hW7.out⟩⟩
                                                                                    case round =>
                                                                                      obtain ⟨j, hj, rfl, hrel⟩ := hrel
                                                                                      by_cases hlt : j < xn
                                                                                      · obtain ⟨v, hv1, hv2⟩ := hrel.out.2.cell hlt
                                                                                        have hN := Lib.hid (And.intro (hrel.out.1.setCell (p := ⟨y, xo + j, none⟩) (.inl rfl) (.int .u8 7)) (hrel.out.2.set (i := j) (v := .int .u8 7)))
                                                                                        go_wp2_with fail
                                                                                        go_roundw
                                                                                        case rel => exact ⟨j + 1, by omega, by go_num, hN⟩
                                                                                        case measure => simp [intOf]; omega
                                                                                      · have e1 : (cd == cd) = true := by simp
                                                                                        go_wp2_with fail
                                                                                        go_ret
                                                                                        exact ⟨rfl, A2, O6, O7, hT7.out.far hrel.out.1 (fun k hk e => by subst e; exact hyO6'.out hk) (fun k hk e => by subst e; exact hyO7.out hk) (fun k hk => by rw [hk]; exact hy0.out)⟩
                                                                                · as_aux_lemma =>
                                                                                  have hEa := Lib.hid (eraseI_any hT'.out.a (by have := hb'.out; omega) d n)
                                                                                  go_wp2_with fail
                                                                                  refine (hEa.out).mono ?_
                                                                                  rintro e w4 ⟨rfl, O4, hN4, hk4, hs4⟩
                                                                                  have hM := Lib.hid (hT'.out.mid hN4 hk4 hs4)
                                                                                  have hRr := Lib.hid (eraseR_any hM.out.r (by have := hb'.out; omega) d n)
                                                                                  obtain ⟨cd, hcd⟩ : ∃ cd, (A.eraseI d n).1 = cd := ⟨_, rfl⟩
                                                                                  rw [hcd] at hRr ⊢
                                                                                  have e1 : (cd == cd) = true := by simp
                                                                                  clear hEa hN4 hk4 hs4 hcd
                                                                                  go_wp2_with fail
                                                                                  refine (hRr.out).mono ?_
                                                                                  rintro e w5 ⟨rfl, O5, hN5, hk5, hs5⟩
                                                                                  have hTT := Lib.hid (hT'.out.two hM.out hN5 hk5 hs5)
                                                                                  clear hRr hN5 hk5 hs5
                                                                                  go_wp2_with fail
                                                                                  go_ret
                                                                                  exact ⟨rfl, _, _, _, hTT.out⟩
                                                                                · as_aux_lemma =>
                                                                                  have hOn := Lib.hid (onI_any hT'.out.a)
                                                                                  go_wp2_with fail
                                                                                  refine (hOn.out).mono ?_
                                                                                  rintro e w4 ⟨rfl, hN4, hk4⟩
                                                                                  have hM := Lib.hid (hT'.out.mid hN4 hk4 (fun k hk => .inl hk))
                                                                                  have f7 := frozen_of_heap (RfB.blk hM.out.r.q) 7
                                                                                  have d7 := RfB.cell hM.out.r.q 7
                                                                                  simp only [rfCells, List.getElem?_toArray, List.getElem?_cons_zero, List.getElem?_cons_succ] at d7
                                                                                  have hR5 := hM.out.r.on
                                                                                  have hTT := Lib.hid (hT'.out.two hM.out hR5.1 hR5.2 (fun k hk => .inl hk)).succ
                                                                                  clear hOn hN4 hk4 hR5
                                                                                  go_wp2_with fail
                                                                                  go_ret
                                                                                  exact ⟨rfl, _, _, _, hTT.out⟩
                                                                                · as_aux_lemma =>
                                                                                  have e0 : ((q : Int) == 0) = false := by simp only [beq_eq_false_iff_ne, ne_eq]; omega
                                                                                  have e1 : ((q : Int) == 1) = false := by simp only [beq_eq_false_iff_ne, ne_eq]; omega
                                                                                  have e2 : ((q : Int) == 2) = false := by simp only [beq_eq_false_iff_ne, ne_eq]; omega
                                                                                  have e3 : ((q : Int) == 3) = false := by simp only [beq_eq_false_iff_ne, ne_eq]; omega
                                                                                  have e4 : ((q : Int) == 4) = false := by simp only [beq_eq_false_iff_ne, ne_eq]; omega
                                                                                  have e5 : ((q : Int) == 5) = false := by simp only [beq_eq_false_iff_ne, ne_eq]; omega
                                                                                  have hRa := Lib.hid (readI_any hT'.out.a (by have := hb'.out; omega) d n p)
                                                                                  go_wp2_with fail
                                                                                  refine (hRa.out).mono ?_
                                                                                  rintro e w4 ⟨v4, rfl, O4, hN4, hk4, hs4, hv4⟩
                                                                                  have hM := Lib.hid (hT'.out.mid hN4 hk4 hs4)
                                                                                  have hv4' := Lib.hid hv4
                                                                                  have hs4' := Lib.hid hs4
                                                                                  have hk4' := Lib.hid hk4
                                                                                  have hRr := Lib.hid (readR_any hM.out.r (by have := hb'.out; omega) d n p)
                                                                                  clear hRa hN4 hk4 hs4 hv4 e0 e1 e2 e3 e4 e5
                                                                                  go_wp2_with fail
                                                                                  refine (hRr.out).mono ?_
                                                                                  rintro e w5 ⟨v5, rfl, O5, hN5, hk5, hs5, hv5⟩
                                                                                  have hTT := Lib.hid (hT'.out.two hM.out hN5 hk5 hs5)
                                                                                  obtain ⟨cd, hcd⟩ : ∃ cd, (A.readI d n p).1 = cd := ⟨_, rfl⟩
                                                                                  obtain ⟨A2, hA2⟩ : ∃ A2, (A.readI d n p).2 = A2 := ⟨_, rfl⟩
                                                                                  rw [hcd]
                                                                                  rw [hA2] at hTT
                                                                                  have c1 : (cd == cd) = true := by simp
                                                                                  have hv := hv4'.out
                                                                                  cases hro : A.readOutI d n p with
                                                                                  | none =>
                                                                                    rw [hro] at hv hv5
                                                                                    simp only [RdVal] at hv hv5
                                                                                    subst hv hv5
                                                                                    have r1 : (convert 22 9 (.slice none 0 0)).run Try.prog w5 = .ok (.string (strOfNums [])) w5 := run_str (a := none) (cap := 0) (d := []) (fun j hj => absurd hj (Nat.not_lt_zero _))
                                                                                    have e1 := run_eql_str (strOfNums []) w5
                                                                                    clear hRr hN5 hk5 hs5 hcd hA2 hro hM q1 q2 r2 hv4'
                                                                                    go_wp2_with fail
                                                                                    go_loopw [21] (fun i wx => i = .int .i64 0 ∧ w5 = wx) (fun _ _ => 0)
                                                                                    case atStart => exact ⟨rfl, rfl⟩
                                                                                    case round =>
                                                                                      obtain ⟨rfl, rfl⟩ := hrel
                                                                                      go_wp2_with fail
                                                                                      go_ret
                                                                                      exact ⟨rfl, A2, O4, O5, hTT.out⟩
                                                                                  | some l =>
                                                                                    rw [hro] at hv hv5
                                                                                    obtain ⟨g4, c4, rfl, hr4, hlo4, hno4⟩ := hv
                                                                                    obtain ⟨g5, c5, rfl, hr5, _, _⟩ := hv5
                                                                                    have hg4 : g4 < w4.heap.size := RowAt.lt hr4 rfl
                                                                                    have hno' : ¬ O' g4 := fun h => by have := hT'.out.r.lt h; omega
                                                                                    have hr45 := hr4.keeps hk5 (fun g hg => by cases hg; exact hno')
                                                                                    have hno5 : ¬ O5 g4 := fun h => by
                                                                                      rcases hs5 g4 h with h1 | h1
                                                                                      · exact hno' h1
                                                                                      · omega
                                                                                    have hy0 := Lib.hid (show w0.heap.size ≤ g4 from Nat.le_trans hT'.out.a.keep.size hlo4)
                                                                                    have hno4' := Lib.hid hno4
                                                                                    have hno5' := Lib.hid hno5
                                                                                    have hW := Lib.hid (NumRow.win hr45)
                                                                                    have r1 := run_str (cap := c4) hr45.nums
                                                                                    have r2 := run_str (cap := c5) hr5.nums
                                                                                    have e1 := run_eql_str (strOfNums l) w5
                                                                                    have hl5 : l.length ≤ 4096 := by
                                                                                      have h1 := readOutI_len hT'.out.a.good.ok hro
                                                                                      have := hS'.out.n2
                                                                                      omega
                                                                                    obtain ⟨s, hs⟩ : ∃ s, strOfNums l = s := ⟨_, rfl⟩
                                                                                    rw [hs] at r1 r2 e1
                                                                                    obtain ⟨m, hm⟩ : ∃ m, l.length = m := ⟨_, rfl⟩
                                                                                    rw [hm] at r1 r2 hW hl5 ⊢
                                                                                    clear hRr hN5 hk5 hs5 hcd hA2 hro hM q1 q2 hv4' hr4 hr5 hlo4 hno4 hg4 hno' hr45 hno5 hs hm
                                                                                    go_wp2_with fail
                                                                                    go_loopw [21] (fun i wx => ∃ j : Nat, j ≤ m ∧ i = .int .i64 j ∧ Hid (Keeps (· = g4) w5 wx ∧ Win wx g4 0 m)) (fun i _ => m - (intOf i).toNat)
                                                                                    case atStart => exact ⟨0, Nat.zero_le _, rfl, Lib.hid ⟨Keeps.refl _ _, hW.out⟩⟩
                                                                                    case round =>
                                                                                      obtain ⟨j, hj, rfl, hrel⟩ := hrel
                                                                                      by_cases hlt : j < m
                                                                                      · obtain ⟨v, hv1, hv2⟩ := hrel.out.2.cell hlt
                                                                                        rw [Nat.zero_add] at hv1 hv2
                                                                                        have hN := Lib.hid (And.intro (hrel.out.1.setCell (p := ⟨g4, 0 + j, none⟩) (.inl rfl) (.int .u8 9)) (hrel.out.2.set (i := j) (v := .int .u8 9)))
                                                                                        rw [Nat.zero_add] at hN
                                                                                        go_wp2_with fail
                                                                                        go_roundw
                                                                                        case rel => exact ⟨j + 1, by omega, by go_num, hN⟩
                                                                                        case measure => simp [intOf]; omega
                                                                                      · go_wp2_with fail
                                                                                        go_ret
                                                                                        exact ⟨rfl, A2, O4, O5, hTT.out.far hrel.out.1 (fun k hk e => by subst e; exact hno4'.out hk) (fun k hk e => by subst e; exact hno5'.out hk) (fun k hk => by rw [hk]; exact hy0.out)⟩
end Go.Proofs.Ytglpacdenfoicaa
