/- BufferPlays: the walk -/
import Derived.Test.YtcejapdjkkmkaaaS
import Derived.Deep.CutBlock
namespace Go.Proofs.Ytcejapdjkkmkaaa
open Go.RowKit

attribute [local go_sem ↓] Go.wp_at_zero Go.wp_at_succ

set_option maxHeartbeats 16000000 in
set_option maxRecDepth 100000 in
theorem plays_any (most : Int) (ax : Option Addr) (capx : Nat) (ops : List OpI) (w : World) (hx : OpsAt w ax ops) (hok : OpsOk ops) (hmx : ops.length ≤ maxLen) :
    Calls Try.prog 5 #[.int .i64 most, .slice ax ops.length capx] w fun e w' => e = .returned (.bool true) ∧ Keeps Nil w w' := by
  obtain ⟨i5, hi5, hz0, hz1, hz2⟩ := info_parts info5
  have hmx2 : ops.length ≤ 9223372036854775807 := by unfold maxLen at hmx; omega
  have hx' := Lib.hid hx
  have hok' := Lib.hid hok
  clear hx hok hmx
  by_cases hm : most < 1
  · have d1 := decide_eq_true hm
    go_enter Try.func5, Try.ntmps5
    go_wp2_with fail
    refine (awake_any w).mono ?_
    rintro e w1 ⟨rfl, hk1⟩
    have hk1' := Lib.hid hk1
    clear hk1
    go_wp2_with fail
    refine (new_none most w1 hm).mono ?_
    rintro e w2 ⟨rfl, rfl⟩
    go_wp2_with fail
    go_ret
    exact ⟨rfl, hk1'.out⟩
  have d1 := decide_eq_false hm
  go_enter Try.func5, Try.ntmps5
  go_wp2_with fail
  refine (awake_any w).mono ?_
  rintro e w1 ⟨rfl, hk1⟩
  have hk1' := Lib.hid hk1
  clear hk1
  go_wp2_with fail
  refine (newX most w1 (by omega)).mono ?_
  rintro e w2 ⟨bb, O, rfl, hL, hK, hO⟩
  have hB0 := Lib.hid (show BufIn w w2 bb most [] O from ⟨hL, hk1'.out.trans hK, fun k hk => by have := hO k hk; have := hk1'.out.size; omega⟩)
  clear hL hK hO hk1'
  go_wp2_with fail
  obtain ⟨rb, hrb⟩ : ∃ rb : Nat, rb = w2.heap.size := ⟨_, rfl⟩
  have hP0 := Lib.hid (show PlayW w (w2.alloc (.cells #[.int .i64 most, .slice none 0 0] 46)) bb rb most [] [] O (rown rb none) from by
    have hk : Keeps Nil w2 (w2.alloc (.cells #[.int .i64 most, .slice none 0 0] 46)) := (Keeps.refl Nil w2).alloc _
    refine ⟨⟨hB0.out.x.nil hk, hB0.out.k.trans hk, hB0.out.o⟩, ⟨none, 0, ⟨by rw [hrb]; exact heap_alloc_new w2 _, RecRow.nil _ _, fun e => by cases e⟩, rfl⟩, ?_, ?_⟩
    · rintro k (rfl | e)
      · rw [hrb]; exact hB0.out.k.size
      · cases e
    · rintro k ho (rfl | e)
      · have := hB0.out.x.lt ho; omega
      · cases e)
  rw [← hrb]
  clear hrb hB0
  go_loopw [9, 10, 11, 12, 13, 14, 15, 16, 17, 18, 19, 20, 21, 22, 23] (fun i _ _ _ _ _ _ _ _ _ _ _ _ _ _ wr => ∃ (k : Nat) (l : List It) (O R : Nat → Prop), k ≤ 120 ∧ l.length ≤ k ∧ (l.length : Int) ≤ most ∧ i = .int .i64 k ∧ PlayW w wr bb rb most l l O R) (fun i _ _ _ _ _ _ _ _ _ _ _ _ _ _ _ => 120 - (intOf i).toNat)
  case atStart => exact ⟨0, [], O, _, by omega, by simp, by simp; omega, rfl, hP0.out⟩
  case round =>
    obtain ⟨i, l, O2, R2, hi, hli, hlm, rfl, hP⟩ := hrel
    have hP' := Lib.hid hP
    clear hP
    by_cases hin : i < ops.length ∧ i < 120
    · obtain ⟨hi1, hi2⟩ := hin
      obtain ⟨b, off, od, cod, rfl, cw0, cw1, cw2, hod, hodn⟩ := hx'.out i hi1
      obtain ⟨⟨hk0, hk1⟩, hdl, hdm⟩ := hok'.out i hi1
      have c0 := hP'.out.b.k.cell cw0 (fun h => h)
      have c1 := hP'.out.b.k.cell cw1 (fun h => h)
      have c2 := hP'.out.b.k.cell cw2 (fun h => h)
      obtain ⟨o, ho⟩ : ∃ o, ops[i] = o := ⟨_, rfl⟩
      rw [ho] at c0 c1 c2 hk0 hk1 hdl hod hdm
      obtain ⟨kd, key, d⟩ := o
      simp only at c0 c1 c2 hk0 hk1 hdl hod hdm
      obtain ⟨a, ha⟩ : ∃ a, absI kd = a := ⟨_, rfl⟩
      have ha0 : 0 ≤ a := by rw [← ha]; exact absI_nonneg _
      have hA := Lib.hid (fun W => abs_val kd a W hk0 hk1 ha)
      have hod' := Lib.hid hod
      have hodn' := Lib.hid hodn
      obtain ⟨s, hs⟩ : ∃ s, strOfNums d = s := ⟨_, rfl⟩
      have hs' := Lib.hid hs
      have hCV := Lib.hid (show ∀ W, Keeps Nil w W → (convert 30 9 (.slice od d.length cod)).run Try.prog W = .ok (.string s) W from fun W hW => by rw [← hs]; exact run_str (hod.keeps hW (fun _ _ h => h)))
      obtain ⟨m7, hm7⟩ : ∃ m7, a % 7 = m7 := ⟨_, rfl⟩
      have hkd : m7 = 0 ∨ m7 = 1 ∨ m7 = 2 ∨ m7 = 3 ∨ m7 = 4 ∨ m7 = 5 ∨ m7 = 6 := by omega
      have hkd' := Lib.hid hkd
      clear hkd
      clear cw0 cw1 cw2 ho ha hk0 hk1 hod hodn hs
      go_upto_block 2 with (go_at_call 12; refine (hA.out _).mono ?_; rintro e w3 ⟨rfl, rfl⟩)
      rw [hm7]
      clear hm7
      go_cut [11, 12, 13, 14, 15, 16, 17, 18, 19, 20, 21, 22, 23] (fun v _ _ _ _ _ _ _ _ _ _ _ _ wx => v = .bool true ∧ ∃ (l' : List It) (O' R' : Nat → Prop), l'.length ≤ i + 1 ∧ (l'.length : Int) ≤ most ∧ PlayW w wx bb rb most l' l' O' R')
      case first =>
        have hno : Hid (¬ O2 wr.heap.size ∧ ¬ R2 wr.heap.size) := ⟨fun ho => by have := hP'.out.b.x.lt ho; omega, fun ho => by have := hP'.out.r.lt ho; omega⟩
        have hkd := hkd'.out
        have hkA : Keeps Nil wr (wr.alloc (.cells #[.int .i64 kd, .int .i64 key, .slice od d.length cod] 48)) := (Keeps.refl Nil wr).alloc _
        have hP4 := Lib.hid (hP'.out.nil hkA)
        have hOB := Lib.hid (heap_alloc_new wr (.cells #[.int .i64 kd, .int .i64 key, .slice od d.length cod] 48))
        clear hkA
        rcases hkd with rfl | rfl | rfl | rfl | rfl | rfl | rfl
        · as_aux_lemma =>
          have hsrc := Lib.hid (show ∀ W, Keeps Nil w W → Src W od 1 d.length (d.map (Value.int .u8)) from fun W hW => (hod'.out.keeps hW (fun _ _ h => h)).src)
          have hb1 := Lib.hid (show 0 + d.length ≤ maxLen by omega)
          have hb2 := Lib.hid (show (0 + d.length) * 1 ≤ 140737488355328 by omega)
          have hLl := Lib.hid (show (iput most ⟨key, 1, d⟩ l).length ≤ i + 1 from iput_len (by omega))
          have hLm := Lib.hid (show ((iput most ⟨key, 1, d⟩ l).length : Int) ≤ most from iput_most hlm)
          obtain ⟨c, hc⟩ : ∃ c, icode most key l = c := ⟨_, rfl⟩
          have ecc : (c == c) = true := by simp
          have hPut := Lib.hid (show ∀ (W : World) (a' : Option Addr) (cap' : Nat), BufX W bb most l O2 → DataAt W a' d → Calls Try.prog 9 #[.pointer (some ⟨bb, 0, none⟩), .int .i64 key, .slice a' d.length cap'] W (BOut W bb most O2 (.int .i64 c) (iput most ⟨key, 1, d⟩ l)) from fun W a' cap' hX hD => by rw [← hc]; exact putX hX key hD hdl hlm (by omega))
          have hN := Lib.hid (show ∀ (W : World) (R : Nat → Prop), RefX W rb most l R → Calls Try.prog 14 #[.pointer (some ⟨rb, 0, none⟩), .int .i64 key, .int .i64 1, .string s] W (ROut W rb most R (.int .i64 c) (iput most ⟨key, 1, d⟩ l)) from fun W R h => by have := rnoteX h ⟨key, 1, d⟩ (by omega); rw [hs'.out] at this; rw [← hc]; exact this)
          clear hc
          go_wp2_with (at_builtin; refine wpList_app _ rfl _ _ 30 rfl 5 i5 (.int .u8 0) 1 1 Try.underlying30 hi5 hz0 hz1 hz2 rfl (by decide) none 0 0 [] rfl od d.length cod (d.map (Value.int .u8)) rfl ?_ (RowAt.nil _ _ _) (hsrc.out _ (by exact hP4.out.b.k)) hodn'.out (dcells_one d) hb1.out hb2.out; intro a5 cap5 w5 hr5 hk5 hb5; rw [List.nil_append, Nat.zero_add] at hr5; have kA := hk5.mono (T := Nil) (fun j hj => by cases hj); have hP5 := Lib.hid (hP4.out.nil kA); have hx5 := kA.heap hOB.out (fun h => h); have q1 := cell_of_heap hx5 1; have q2 := cell_of_heap hx5 2; simp at q1 q2; have hx5' := Lib.hid hx5; have hr5' := Lib.hid hr5; have hb5' := Lib.hid hb5; clear hr5 hk5 hb5 kA hx5 c0 c1 c2)
          have q3 := hCV.out _ (hP5.out.b.k.drew)
          have hg5 : Hid (∀ g, blk a5 = some g → ¬ O2 g ∧ ¬ R2 g ∧ w.heap.size ≤ g ∧ g < w5.heap.size) := fun g hg => by
            have h1 : wr.heap.size < g := by
              rcases hb5'.out with e | ⟨e, _⟩
              · rw [hg] at e; cases e
              · rw [hg] at e; cases e; simp
            exact ⟨fun ho => by have := hP'.out.b.x.lt ho; omega, fun ho => by have := hP'.out.r.lt ho; omega, by have := hP'.out.b.k.size; omega, RowAt.lt hr5'.out hg⟩
          have hD5 := Lib.hid (ByteRow.data hr5'.out)
          go_region_held3 (fun W => W.cell? ⟨wr.heap.size, 1, none⟩ = some (.int .i64 key) ∧ W.cell? ⟨wr.heap.size, 2, none⟩ = some (.slice od d.length cod) ∧ (convert 30 9 (.slice od d.length cod)).run Try.prog W = .ok (.string s) W) (first | exact ⟨q1, q2, q3⟩ | exact ⟨s1, s2, s3⟩ | exact ⟨r1, r2, r3⟩) (first
            | (go_at_call 9; refine (hPut.out _ a5 cap5 (by exact hP5.out.b.x.nil (Keeps.refl Nil w5).drew) (by exact hD5.out.keeps (Keeps.refl Nil w5).drew (fun _ _ h => h))).mono ?_; rintro e w6 hB6; obtain ⟨rfl, O6, hP6, hK6, hG6⟩ := hP5.out.buf (Keeps.refl Nil w5).drew hB6; have hx6 := hK6.heap hx5'.out hno.out.1; have r1 := cell_of_heap hx6 1; have r2 := cell_of_heap hx6 2; simp at r1 r2; have r3 := hCV.out _ hP6.b.k; have hP6' := Lib.hid hP6; have hx6' := Lib.hid hx6; have hK6' := Lib.hid hK6; have hG6' := Lib.hid hG6; clear hB6 hP6 hK6 hx6 hG6)
            | (go_at_call 14; refine (hN.out _ _ (by exact hP6'.out.r)).mono ?_; rintro e w7 hR7; obtain ⟨rfl, R7, hP7, hK7, hG7⟩ := hP6'.out.ref (Keeps.refl Nil _) hR7; have hx7 := hK7.heap hx6'.out hno.out.2; have s1 := cell_of_heap hx7 1; have s2 := cell_of_heap hx7 2; simp at s1 s2; have s3 := hCV.out _ hP7.b.k; have hPL := Lib.hid hP7; have hK7' := Lib.hid hK7; have hG7' := Lib.hid hG7; clear hR7 hP7 hK7 hx7 hG7))
          all_goals
            have hg7 : Hid (∀ g, blk a5 = some g → ¬ O6 g ∧ ¬ R7 g ∧ w.heap.size ≤ g) := fun g hg => by
              obtain ⟨h1, h2, h3, h4⟩ := hg5.out g hg
              refine ⟨fun ho => ?_, fun ho => ?_, h3⟩
              · rcases hG6'.out g ho with h | h
                · exact h1 h
                · omega
              · rcases hG7'.out g ho with h | h
                · exact h2 h
                · have := hK6'.out.size; omega
            have hBR' := Lib.hid (show ByteRow w7 a5 d.length cap5 from ByteRow.keeps (ByteRow.keeps ⟨d, rfl, hr5'.out⟩ hK6'.out (fun g hg => (hg5.out g hg).1)) hK7'.out (fun g hg => (hg5.out g hg).2.1))
            clear q1 q2 q3 r1 r2 r3 s1 s2 s3
            go_wp2_with fail
            go_loopw [13] (fun c wx => ∃ p : Nat, p ≤ d.length ∧ c = .int .i64 p ∧ ByteRow wx a5 d.length cap5 ∧ PlayW w wx bb rb most (iput most ⟨key, 1, d⟩ l) (iput most ⟨key, 1, d⟩ l) O6 R7) (fun c _ => d.length - (intOf c).toNat)
            case atStart => exact ⟨0, Nat.zero_le _, rfl, hBR'.out, hPL.out⟩
            case round =>
              obtain ⟨p, hp, rfl, hbr, hpl⟩ := hrel
              have hbr' := Lib.hid hbr
              have hpl' := Lib.hid hpl
              clear hpl
              by_cases hlt : p < d.length
              · obtain ⟨g, y, hga, hgl, hcy, hfy⟩ := hbr.cell hlt
                have hg8 := Lib.hid (hg7.out g (by rw [hga]; rfl))
                cases hga
                clear hbr
                go_wp2_with fail
                go_roundw
                case rel => exact ⟨p + 1, by omega, by go_num, hbr'.out.set _, hpl'.out.far ((Keeps.refl (· = g) _).setCell (.inl rfl) _) hg8.out.1 hg8.out.2.1 hg8.out.2.2⟩
                case measure => simp [intOf]; omega
              · clear hbr
                go_wp2_with fail
                go_meet
                exact ⟨rfl, (iput most ⟨key, 1, d⟩ l), O6, R7, hLl.out, hLm.out, hpl'.out⟩
        · as_aux_lemma =>
          have hsrc := Lib.hid (show ∀ W, Keeps Nil w W → Src W od 1 d.length (d.map (Value.int .u8)) from fun W hW => (hod'.out.keeps hW (fun _ _ h => h)).src)
          have hb1 := Lib.hid (show 0 + d.length ≤ maxLen by omega)
          have hb2 := Lib.hid (show (0 + d.length) * 1 ≤ 140737488355328 by omega)
          have hLl := Lib.hid (show (iput most ⟨key, 1, d⟩ l).length ≤ i + 1 from iput_len (by omega))
          have hLm := Lib.hid (show ((iput most ⟨key, 1, d⟩ l).length : Int) ≤ most from iput_most hlm)
          obtain ⟨c, hc⟩ : ∃ c, icode most key l = c := ⟨_, rfl⟩
          have ecc : (c == c) = true := by simp
          have hPut := Lib.hid (show ∀ (W : World) (a' : Option Addr) (cap' : Nat), BufX W bb most l O2 → DataAt W a' d → Calls Try.prog 9 #[.pointer (some ⟨bb, 0, none⟩), .int .i64 key, .slice a' d.length cap'] W (BOut W bb most O2 (.int .i64 c) (iput most ⟨key, 1, d⟩ l)) from fun W a' cap' hX hD => by rw [← hc]; exact putX hX key hD hdl hlm (by omega))
          have hN := Lib.hid (show ∀ (W : World) (R : Nat → Prop), RefX W rb most l R → Calls Try.prog 14 #[.pointer (some ⟨rb, 0, none⟩), .int .i64 key, .int .i64 1, .string s] W (ROut W rb most R (.int .i64 c) (iput most ⟨key, 1, d⟩ l)) from fun W R h => by have := rnoteX h ⟨key, 1, d⟩ (by omega); rw [hs'.out] at this; rw [← hc]; exact this)
          clear hc
          go_wp2_with (at_builtin; refine wpList_app _ rfl _ _ 30 rfl 5 i5 (.int .u8 0) 1 1 Try.underlying30 hi5 hz0 hz1 hz2 rfl (by decide) none 0 0 [] rfl od d.length cod (d.map (Value.int .u8)) rfl ?_ (RowAt.nil _ _ _) (hsrc.out _ (by exact hP4.out.b.k)) hodn'.out (dcells_one d) hb1.out hb2.out; intro a5 cap5 w5 hr5 hk5 hb5; rw [List.nil_append, Nat.zero_add] at hr5; have kA := hk5.mono (T := Nil) (fun j hj => by cases hj); have hP5 := Lib.hid (hP4.out.nil kA); have hx5 := kA.heap hOB.out (fun h => h); have q1 := cell_of_heap hx5 1; have q2 := cell_of_heap hx5 2; simp at q1 q2; have hx5' := Lib.hid hx5; have hr5' := Lib.hid hr5; have hb5' := Lib.hid hb5; clear hr5 hk5 hb5 kA hx5 c0 c1 c2)
          have q3 := hCV.out _ (hP5.out.b.k.drew)
          have hg5 : Hid (∀ g, blk a5 = some g → ¬ O2 g ∧ ¬ R2 g ∧ w.heap.size ≤ g ∧ g < w5.heap.size) := fun g hg => by
            have h1 : wr.heap.size < g := by
              rcases hb5'.out with e | ⟨e, _⟩
              · rw [hg] at e; cases e
              · rw [hg] at e; cases e; simp
            exact ⟨fun ho => by have := hP'.out.b.x.lt ho; omega, fun ho => by have := hP'.out.r.lt ho; omega, by have := hP'.out.b.k.size; omega, RowAt.lt hr5'.out hg⟩
          have hD5 := Lib.hid (ByteRow.data hr5'.out)
          go_region_held3 (fun W => W.cell? ⟨wr.heap.size, 1, none⟩ = some (.int .i64 key) ∧ W.cell? ⟨wr.heap.size, 2, none⟩ = some (.slice od d.length cod) ∧ (convert 30 9 (.slice od d.length cod)).run Try.prog W = .ok (.string s) W) (first | exact ⟨q1, q2, q3⟩ | exact ⟨s1, s2, s3⟩ | exact ⟨r1, r2, r3⟩) (first
            | (go_at_call 9; refine (hPut.out _ a5 cap5 (by exact hP5.out.b.x.nil (Keeps.refl Nil w5).drew) (by exact hD5.out.keeps (Keeps.refl Nil w5).drew (fun _ _ h => h))).mono ?_; rintro e w6 hB6; obtain ⟨rfl, O6, hP6, hK6, hG6⟩ := hP5.out.buf (Keeps.refl Nil w5).drew hB6; have hx6 := hK6.heap hx5'.out hno.out.1; have r1 := cell_of_heap hx6 1; have r2 := cell_of_heap hx6 2; simp at r1 r2; have r3 := hCV.out _ hP6.b.k; have hP6' := Lib.hid hP6; have hx6' := Lib.hid hx6; have hK6' := Lib.hid hK6; have hG6' := Lib.hid hG6; clear hB6 hP6 hK6 hx6 hG6)
            | (go_at_call 14; refine (hN.out _ _ (by exact hP6'.out.r)).mono ?_; rintro e w7 hR7; obtain ⟨rfl, R7, hP7, hK7, hG7⟩ := hP6'.out.ref (Keeps.refl Nil _) hR7; have hx7 := hK7.heap hx6'.out hno.out.2; have s1 := cell_of_heap hx7 1; have s2 := cell_of_heap hx7 2; simp at s1 s2; have s3 := hCV.out _ hP7.b.k; have hPL := Lib.hid hP7; have hK7' := Lib.hid hK7; have hG7' := Lib.hid hG7; clear hR7 hP7 hK7 hx7 hG7))
          all_goals
            have hg7 : Hid (∀ g, blk a5 = some g → ¬ O6 g ∧ ¬ R7 g ∧ w.heap.size ≤ g) := fun g hg => by
              obtain ⟨h1, h2, h3, h4⟩ := hg5.out g hg
              refine ⟨fun ho => ?_, fun ho => ?_, h3⟩
              · rcases hG6'.out g ho with h | h
                · exact h1 h
                · omega
              · rcases hG7'.out g ho with h | h
                · exact h2 h
                · have := hK6'.out.size; omega
            have hBR' := Lib.hid (show ByteRow w7 a5 d.length cap5 from ByteRow.keeps (ByteRow.keeps ⟨d, rfl, hr5'.out⟩ hK6'.out (fun g hg => (hg5.out g hg).1)) hK7'.out (fun g hg => (hg5.out g hg).2.1))
            clear q1 q2 q3 r1 r2 r3 s1 s2 s3
            go_wp2_with fail
            go_loopw [13] (fun c wx => ∃ p : Nat, p ≤ d.length ∧ c = .int .i64 p ∧ ByteRow wx a5 d.length cap5 ∧ PlayW w wx bb rb most (iput most ⟨key, 1, d⟩ l) (iput most ⟨key, 1, d⟩ l) O6 R7) (fun c _ => d.length - (intOf c).toNat)
            case atStart => exact ⟨0, Nat.zero_le _, rfl, hBR'.out, hPL.out⟩
            case round =>
              obtain ⟨p, hp, rfl, hbr, hpl⟩ := hrel
              have hbr' := Lib.hid hbr
              have hpl' := Lib.hid hpl
              clear hpl
              by_cases hlt : p < d.length
              · obtain ⟨g, y, hga, hgl, hcy, hfy⟩ := hbr.cell hlt
                have hg8 := Lib.hid (hg7.out g (by rw [hga]; rfl))
                cases hga
                clear hbr
                go_wp2_with fail
                go_roundw
                case rel => exact ⟨p + 1, by omega, by go_num, hbr'.out.set _, hpl'.out.far ((Keeps.refl (· = g) _).setCell (.inl rfl) _) hg8.out.1 hg8.out.2.1 hg8.out.2.2⟩
                case measure => simp [intOf]; omega
              · clear hbr
                go_wp2_with fail
                go_meet
                exact ⟨rfl, (iput most ⟨key, 1, d⟩ l), O6, R7, hLl.out, hLm.out, hpl'.out⟩
        · as_aux_lemma =>
          have hLl := Lib.hid (show (iput most ⟨key, 2, []⟩ l).length ≤ i + 1 from iput_len (by omega))
          have hLm := Lib.hid (show ((iput most ⟨key, 2, []⟩ l).length : Int) ≤ most from iput_most hlm)
          obtain ⟨c, hc⟩ : ∃ c, icode most key l = c := ⟨_, rfl⟩
          have ecc : (c == c) = true := by simp
          have hPut := Lib.hid (show ∀ (W : World), BufX W bb most l O2 → Calls Try.prog 13 #[.pointer (some ⟨bb, 0, none⟩), .int .i64 key] W (BOut W bb most O2 (.int .i64 c) (iput most ⟨key, 2, []⟩ l)) from fun W hX => by rw [← hc]; exact trimX hX key hlm (by omega))
          have hN := Lib.hid (show ∀ (W : World) (R : Nat → Prop), RefX W rb most l R → Calls Try.prog 14 #[.pointer (some ⟨rb, 0, none⟩), .int .i64 key, .int .i64 2, .string ⟨#[]⟩] W (ROut W rb most R (.int .i64 c) (iput most ⟨key, 2, []⟩ l)) from fun W R h => by rw [← hc]; exact rnoteX h ⟨key, 2, []⟩ (by omega))
          have q1 : (wr.alloc (.cells #[.int .i64 kd, .int .i64 key, .slice od d.length cod] 48)).cell? ⟨wr.heap.size, 1, none⟩ = some (.int .i64 key) := cell_of_heap hOB.out 1
          clear hc c0 c1 c2
          have c0 : True := trivial
          go_wp2_with fail
          go_region_held3 (fun W => W.cell? ⟨wr.heap.size, 1, none⟩ = some (.int .i64 key)) (first | exact q1 | exact s1 | exact r1) (first
            | (go_at_call 13; refine (hPut.out _ (by exact hP4.out.b.x.nil (Keeps.refl Nil _).drew)).mono ?_; rintro e w6 hB6; obtain ⟨rfl, O6, hP6, hK6, hG6⟩ := hP4.out.buf (Keeps.refl Nil _).drew hB6; have hx6 := hK6.heap hOB.out hno.out.1; have r1 := cell_of_heap hx6 1; simp at r1; have hP6' := Lib.hid hP6; have hx6' := Lib.hid hx6; clear hB6 hP6 hK6 hx6 hG6)
            | (go_at_call 14; refine (hN.out _ _ (by exact hP6'.out.r)).mono ?_; rintro e w7 hR7; obtain ⟨rfl, R7, hP7, hK7, hG7⟩ := hP6'.out.ref (Keeps.refl Nil _) hR7; have hx7 := hK7.heap hx6'.out hno.out.2; have s1 := cell_of_heap hx7 1; simp at s1; have hPL := Lib.hid hP7; clear hR7 hP7 hK7 hx7 hG7))
          all_goals
            clear q1 r1 s1
            go_wp2_with fail
            go_meet
            exact ⟨rfl, _, O6, R7, hLl.out, hLm.out, hPL.out⟩
        · have hLl := Lib.hid (show l.length ≤ i + 1 by omega)
          have hLm := Lib.hid hlm
          have hG := Lib.hid (getX hP4.out.b.x key)
          rcases fidx key l with ⟨h1, h2⟩ | ⟨j, x, h1, h2, h3, h4, h5, h6⟩
          · as_aux_lemma =>
            rw [show ist key l = 0 by simp [ist, h1], show idata key l = [] by simp [idata, h1]] at hG
            have hF := Lib.hid (show ∀ W, RefX W rb most l R2 → Calls Try.prog 16 #[.pointer (some ⟨rb, 0, none⟩), .int .i64 key] W fun e w' => e = .returned (.int .i64 (-1)) ∧ W = w' from fun W h => by have := rfindX h key (by omega); rw [h2] at this; exact this)
            clear h1 h2
            go_wp2_with fail
            refine (hG.out).mono ?_
            rintro e w5 ⟨g0, rfl, hg5, hge, hk5⟩
            have hPL := Lib.hid (hP4.out.nil hk5)
            have q1 := cell_of_heap (hk5.heap hOB.out (fun h => h)) 1
            simp at q1
            clear hk5 hg5 hge
            go_wp2_with fail
            refine (hF.out _ (by exact hPL.out.r)).mono ?_
            rintro e w6 ⟨rfl, rfl⟩
            go_wp2_with fail
            refine wp_loop_rounds 1 ?_
            rw [rounds_succ]
            go_wp2_with fail
            go_meet
            exact ⟨rfl, l, O2, R2, hLl.out, hLm.out, hPL.out⟩
          · as_aux_lemma =>
            obtain ⟨kx, sx, dx⟩ := x
            rw [show ist key l = sx by simp [ist, h3], show idata key l = dx by simp [idata, h3]] at hG
            have hF := Lib.hid (show ∀ W, RefX W rb most l R2 → Calls Try.prog 16 #[.pointer (some ⟨rb, 0, none⟩), .int .i64 key] W fun e w' => e = .returned (.int .i64 (j : Int)) ∧ W = w' from fun W h => by have := rfindX h key (by omega); rw [h4] at this; exact this)
            obtain ⟨ss, hss⟩ : ∃ ss, strOfNums dx = ss := ⟨_, rfl⟩
            have hss' := Lib.hid hss
            have hes := fun W => run_eql_str ss W
            have est : (sx == sx) = true := by simp
            have hjl : j < l.length := (List.getElem?_eq_some_iff.1 h1).1
            have h1' := Lib.hid h1
            clear h1 h2 h3 h4 h5 h6 hss
            go_wp2_with fail
            refine (hG.out).mono ?_
            rintro e w5 ⟨g0, rfl, hg5, hge, hk5⟩
            have hPL := Lib.hid (hP4.out.nil hk5)
            have q1 := cell_of_heap (hk5.heap hOB.out (fun h => h)) 1
            simp at q1
            have hge2 : wr.heap.size < g0 := by simp at hge; omega
            have hg7 : Hid (∀ g, blk (some (⟨g0, 0, none⟩ : Addr)) = some g → ¬ O2 g ∧ ¬ R2 g ∧ w.heap.size ≤ g) := fun g hg => by
              have e0 : g0 = g := by simpa [blk] using hg
              subst e0
              exact ⟨fun ho => by have := hP'.out.b.x.lt ho; omega, fun ho => by have := hP'.out.r.lt ho; omega, by have := hP'.out.b.k.size; omega⟩
            have hdx := hP4.out.b.x.dlen (List.mem_of_getElem? h1'.out)
            simp only at hdx
            have hdm : dx.length ≤ maxLen := by unfold maxLen; omega
            have hBR' := Lib.hid (show ByteRow w5 (some ⟨g0, 0, none⟩) dx.length dx.length from ByteRow.of_heap hg5 hdm)
            have hcv : ∀ n, (convert 30 9 (.slice (some ⟨g0, 0, none⟩) dx.length dx.length)).run Try.prog (w5.drewN n) = .ok (.string ss) (w5.drewN n) := fun n => by
              rw [← hss'.out]
              exact run_str (d := dx) (fun q hq => ⟨g0, 0, rfl, by rw [Nat.zero_add]; have := cell_of_heap (w := w5.drewN n) hg5 q; rw [this]; simp [dcells, gi_eq hq, hq]⟩)
            obtain ⟨ra, rc, hRB, hRe⟩ := hPL.out.r
            have u1 := cell_of_heap hRB.head 1
            simp at u1
            obtain ⟨gr, hgr, -, -, hcl⟩ := hRB.row.cell itC_len h1'.out
            have u2 := hcl 1 (.int .i64 sx) (by decide) rfl
            have u3 := hcl 2 (.string (strOfNums dx)) (by decide) rfl
            rw [hss'.out] at u3
            subst hgr
            clear hk5 hg5 hge hRB hRe hcl hdm
            go_wp2_with fail
            refine (hF.out _ (by exact hPL.out.r)).mono ?_
            rintro e w6 ⟨rfl, rfl⟩
            go_wp2_with fail
            go_quiet (fail)
            clear hcv u1 u2 u3
            have hPL := Lib.hid (hPL.out.nil ((Keeps.refl Nil w5).drewN nq))
            have hBR' := Lib.hid (hBR'.out.keeps ((Keeps.refl Nil w5).drewN nq) (fun _ _ h => h))
            go_wp2_with fail
            go_loopw [17] (fun c wx => ∃ p : Nat, p ≤ dx.length ∧ c = .int .i64 p ∧ ByteRow wx (some ⟨g0, 0, none⟩) dx.length dx.length ∧ PlayW w wx bb rb most l l O2 R2) (fun c _ => dx.length - (intOf c).toNat)
            case atStart => exact ⟨0, Nat.zero_le _, rfl, hBR'.out, hPL.out⟩
            case round =>
              obtain ⟨p, hp, rfl, hbr, hpl⟩ := hrel
              have hbr' := Lib.hid hbr
              have hpl' := Lib.hid hpl
              clear hpl
              by_cases hlt : p < dx.length
              · obtain ⟨g, y, hga, hgl, hcy, hfy⟩ := hbr.cell hlt
                have hg8 := Lib.hid (hg7.out g (by rw [hga]; rfl))
                cases hga
                clear hbr
                go_wp2_with fail
                go_roundw
                case rel => exact ⟨p + 1, by omega, by go_num, hbr'.out.set _, hpl'.out.far ((Keeps.refl (· = g0) _).setCell (.inl rfl) _) hg8.out.1 hg8.out.2.1 hg8.out.2.2⟩
                case measure => simp [intOf]; omega
              · clear hbr
                go_wp2_with fail
                go_meet
                exact ⟨rfl, l, O2, R2, hLl.out, hLm.out, hpl'.out⟩
        · have hLl := Lib.hid (show l.length ≤ i + 1 by omega)
          have hLm := Lib.hid hlm
          have hG := Lib.hid (getX hP4.out.b.x key)
          rcases fidx key l with ⟨h1, h2⟩ | ⟨j, x, h1, h2, h3, h4, h5, h6⟩
          · as_aux_lemma =>
            rw [show ist key l = 0 by simp [ist, h1], show idata key l = [] by simp [idata, h1]] at hG
            have hF := Lib.hid (show ∀ W, RefX W rb most l R2 → Calls Try.prog 16 #[.pointer (some ⟨rb, 0, none⟩), .int .i64 key] W fun e w' => e = .returned (.int .i64 (-1)) ∧ W = w' from fun W h => by have := rfindX h key (by omega); rw [h2] at this; exact this)
            clear h1 h2
            go_wp2_with fail
            refine (hG.out).mono ?_
            rintro e w5 ⟨g0, rfl, hg5, hge, hk5⟩
            have hPL := Lib.hid (hP4.out.nil hk5)
            have q1 := cell_of_heap (hk5.heap hOB.out (fun h => h)) 1
            simp at q1
            clear hk5 hg5 hge
            go_wp2_with fail
            refine (hF.out _ (by exact hPL.out.r)).mono ?_
            rintro e w6 ⟨rfl, rfl⟩
            go_wp2_with fail
            refine wp_loop_rounds 1 ?_
            rw [rounds_succ]
            go_wp2_with fail
            go_meet
            exact ⟨rfl, l, O2, R2, hLl.out, hLm.out, hPL.out⟩
          · as_aux_lemma =>
            obtain ⟨kx, sx, dx⟩ := x
            rw [show ist key l = sx by simp [ist, h3], show idata key l = dx by simp [idata, h3]] at hG
            have hF := Lib.hid (show ∀ W, RefX W rb most l R2 → Calls Try.prog 16 #[.pointer (some ⟨rb, 0, none⟩), .int .i64 key] W fun e w' => e = .returned (.int .i64 (j : Int)) ∧ W = w' from fun W h => by have := rfindX h key (by omega); rw [h4] at this; exact this)
            obtain ⟨ss, hss⟩ : ∃ ss, strOfNums dx = ss := ⟨_, rfl⟩
            have hss' := Lib.hid hss
            have hes := fun W => run_eql_str ss W
            have est : (sx == sx) = true := by simp
            have hjl : j < l.length := (List.getElem?_eq_some_iff.1 h1).1
            have h1' := Lib.hid h1
            clear h1 h2 h3 h4 h5 h6 hss
            go_wp2_with fail
            refine (hG.out).mono ?_
            rintro e w5 ⟨g0, rfl, hg5, hge, hk5⟩
            have hPL := Lib.hid (hP4.out.nil hk5)
            have q1 := cell_of_heap (hk5.heap hOB.out (fun h => h)) 1
            simp at q1
            have hge2 : wr.heap.size < g0 := by simp at hge; omega
            have hg7 : Hid (∀ g, blk (some (⟨g0, 0, none⟩ : Addr)) = some g → ¬ O2 g ∧ ¬ R2 g ∧ w.heap.size ≤ g) := fun g hg => by
              have e0 : g0 = g := by simpa [blk] using hg
              subst e0
              exact ⟨fun ho => by have := hP'.out.b.x.lt ho; omega, fun ho => by have := hP'.out.r.lt ho; omega, by have := hP'.out.b.k.size; omega⟩
            have hdx := hP4.out.b.x.dlen (List.mem_of_getElem? h1'.out)
            simp only at hdx
            have hdm : dx.length ≤ maxLen := by unfold maxLen; omega
            have hBR' := Lib.hid (show ByteRow w5 (some ⟨g0, 0, none⟩) dx.length dx.length from ByteRow.of_heap hg5 hdm)
            have hcv : ∀ n, (convert 30 9 (.slice (some ⟨g0, 0, none⟩) dx.length dx.length)).run Try.prog (w5.drewN n) = .ok (.string ss) (w5.drewN n) := fun n => by
              rw [← hss'.out]
              exact run_str (d := dx) (fun q hq => ⟨g0, 0, rfl, by rw [Nat.zero_add]; have := cell_of_heap (w := w5.drewN n) hg5 q; rw [this]; simp [dcells, gi_eq hq, hq]⟩)
            obtain ⟨ra, rc, hRB, hRe⟩ := hPL.out.r
            have u1 := cell_of_heap hRB.head 1
            simp at u1
            obtain ⟨gr, hgr, -, -, hcl⟩ := hRB.row.cell itC_len h1'.out
            have u2 := hcl 1 (.int .i64 sx) (by decide) rfl
            have u3 := hcl 2 (.string (strOfNums dx)) (by decide) rfl
            rw [hss'.out] at u3
            subst hgr
            clear hk5 hg5 hge hRB hRe hcl hdm
            go_wp2_with fail
            refine (hF.out _ (by exact hPL.out.r)).mono ?_
            rintro e w6 ⟨rfl, rfl⟩
            go_wp2_with fail
            go_quiet (fail)
            clear hcv u1 u2 u3
            have hPL := Lib.hid (hPL.out.nil ((Keeps.refl Nil w5).drewN nq))
            have hBR' := Lib.hid (hBR'.out.keeps ((Keeps.refl Nil w5).drewN nq) (fun _ _ h => h))
            go_wp2_with fail
            go_loopw [17] (fun c wx => ∃ p : Nat, p ≤ dx.length ∧ c = .int .i64 p ∧ ByteRow wx (some ⟨g0, 0, none⟩) dx.length dx.length ∧ PlayW w wx bb rb most l l O2 R2) (fun c _ => dx.length - (intOf c).toNat)
            case atStart => exact ⟨0, Nat.zero_le _, rfl, hBR'.out, hPL.out⟩
            case round =>
              obtain ⟨p, hp, rfl, hbr, hpl⟩ := hrel
              have hbr' := Lib.hid hbr
              have hpl' := Lib.hid hpl
              clear hpl
              by_cases hlt : p < dx.length
              · obtain ⟨g, y, hga, hgl, hcy, hfy⟩ := hbr.cell hlt
                have hg8 := Lib.hid (hg7.out g (by rw [hga]; rfl))
                cases hga
                clear hbr
                go_wp2_with fail
                go_roundw
                case rel => exact ⟨p + 1, by omega, by go_num, hbr'.out.set _, hpl'.out.far ((Keeps.refl (· = g0) _).setCell (.inl rfl) _) hg8.out.1 hg8.out.2.1 hg8.out.2.2⟩
                case measure => simp [intOf]; omega
              · clear hbr
                go_wp2_with fail
                go_meet
                exact ⟨rfl, l, O2, R2, hLl.out, hLm.out, hpl'.out⟩
        · cases l with
          | nil => as_aux_lemma =>
            obtain ⟨ra, rc, hRB, rfl⟩ := hP4.out.r
            have hr1 := cell_of_heap hRB.head 1
            simp at hr1
            clear hRB
            have hT := Lib.hid (takeN hP4.out.b.x)
            go_wp2_with fail
            refine (hT.out).mono ?_
            rintro e w5 ⟨rfl, rfl⟩
            go_wp2_with fail
            go_meet
            exact ⟨rfl, [], _, _, by simp, by simpa using hlm, hP4.out⟩
          | cons x l2 => as_aux_lemma =>
            obtain ⟨kx, sx, dx⟩ := x
            have hl2 : l2.length + 1 ≤ i := by simpa using hli
            have hlm2 : (l2.length : Int) + 1 ≤ most := by simpa using hlm
            have hT := Lib.hid (takeX2 hP4.out.b.x (by omega))
            obtain ⟨sd, hsd⟩ : ∃ sd, strOfNums dx = sd := ⟨_, rfl⟩
            have hes := fun W => run_eql_str sd W
            have hsd' := Lib.hid hsd
            have ek : (kx == kx) = true := by simp
            have est : (sx == sx) = true := by simp
            have el : (l2.length + 1 == 0) = false := by simp
            have el' : ((l2.length : Int) + 1 == 0) = false := by simp; omega
            clear hsd
            go_wp2_with fail
            refine (hT.out).mono ?_
            rintro e w5 ⟨a5, cap5, hB5, hD5, hO5⟩
            obtain ⟨rfl, O5, hP5, hK5, -⟩ := hP4.out.buf (Keeps.refl Nil _) hB5
            obtain ⟨ra, rc, hRB, hRe⟩ := hP5.r
            have hr1 := cell_of_heap hRB.head 1
            simp at hr1
            have hOut := Lib.hid (show Calls Try.prog 17 #[.pointer (some ⟨rb, 0, none⟩), .int .i64 0] w5 (ROut w5 rb most R2 (.agg #[.int .i64 kx, .int .i64 sx, .string sd]) l2) from by
              have := routX hP5.r (i := 0) (x := ⟨kx, sx, dx⟩) rfl (by simp; omega)
              rw [hsd'.out] at this
              exact this)
            have hP5' := Lib.hid hP5
            have hD5' := Lib.hid (show ∀ W, Keeps R2 w5 W → (convert 30 9 (.slice a5 dx.length cap5)).run Try.prog W = .ok (.string sd) W from fun W hW => by rw [← hsd'.out]; exact run_str (hD5.keeps hW (fun b hb => hP'.out.no b (hO5 b hb))))
            clear hB5 hD5 hP5 hRB hRe hK5 hO5 hT
            go_wp2_with fail
            refine (hOut.out).mono ?_
            rintro e w6 hR6
            obtain ⟨rfl, R6, hP6, hK6, -⟩ := hP5'.out.ref (Keeps.refl Nil _) hR6
            have hP6' := Lib.hid hP6
            have hcv := hD5'.out _ (hK6.alloc (.cells #[.int .i64 kx, .int .i64 sx, .string sd] 53))
            clear hR6 hP6 hOut hr1
            go_wp2_with fail
            go_meet
            exact ⟨rfl, l2, O5, R6, by omega, by omega, hP6'.out.nil ((Keeps.refl Nil _).alloc _)⟩
        · have hF := Lib.hid (rfindX hP4.out.r key (by omega))
          rcases fidx key l with ⟨h1, h2⟩ | ⟨j, x, h1, h2, h3, h4, h5, h6⟩
          · as_aux_lemma =>
            rw [h2] at hF
            have hD := Lib.hid (by have := dropX hP4.out.b.x key (by omega); rw [show ihas key l = false by simp [ihas, h1], idel_none h1] at this; exact this)
            clear h1 h2
            go_wp2_with fail
            refine (hF.out).mono ?_
            rintro e w5 ⟨rfl, rfl⟩
            go_wp2_with fail
            refine (hD.out).mono ?_
            rintro e w5 hB5
            obtain ⟨rfl, O5, hP5, -, -⟩ := hP4.out.buf (Keeps.refl Nil _) hB5
            have hP5' := Lib.hid hP5
            clear hB5 hP5 hD
            go_wp2_with fail
            go_meet
            exact ⟨rfl, l, O5, R2, by omega, by omega, hP5'.out⟩
          · as_aux_lemma =>
            rw [h4] at hF
            have hD := Lib.hid (show ∀ (R : Nat → Prop) (W : World), PlayW w W bb rb most l (l.eraseIdx j) O2 R → Calls Try.prog 18 #[.pointer (some ⟨bb, 0, none⟩), .int .i64 key] W (BOut W bb most O2 (.bool true) (l.eraseIdx j)) from fun R W hW => by have := dropX hW.b.x key (by omega); rw [show ihas key l = true by simp [ihas, h3], h5] at this; exact this)
            have hOut := Lib.hid (routX hP4.out.r h1 (by omega))
            have hel := Lib.hid (show (l.eraseIdx j).length ≤ l.length from List.length_eraseIdx_le _ _)
            clear h1 h2 h3 h4 h5 h6
            go_wp2_with fail
            refine (hF.out).mono ?_
            rintro e w5 ⟨rfl, rfl⟩
            go_wp2_with fail
            refine (hOut.out).mono ?_
            rintro e w6 hR6
            obtain ⟨rfl, R6, hP6, hK6, -⟩ := hP4.out.ref (Keeps.refl Nil _) hR6
            have hP6' := Lib.hid hP6
            have c1b : w6.cell? ⟨wr.heap.size, 1, none⟩ = some (.int .i64 key) := cell_of_heap (hK6.heap hOB.out hno.out.2) 1
            clear hR6 hP6 hOut hK6
            go_wp2_with fail
            refine (hD.out _ _ hP6'.out).mono ?_
            rintro e w7 hB7
            obtain ⟨rfl, O7, hP7, -, -⟩ := hP6'.out.buf (Keeps.refl Nil _) hB7
            have hP7' := Lib.hid hP7
            clear hB7 hP7 hD
            go_wp2_with fail
            go_meet
            exact ⟨rfl, _, O7, R6, by have := hel.out; omega, by have := hel.out; omega, hP7'.out⟩
      case rest => as_aux_lemma =>
        obtain ⟨rfl, l', O', R', hl', hlm', hPc⟩ := hcut
        have hPc' := Lib.hid hPc
        clear hPc
        obtain ⟨ra, rc, hRB, hRe⟩ := hPc'.out.r
        have hr1 := cell_of_heap hRB.head 1
        simp at hr1
        have hLn := Lib.hid (show ∀ W, Keeps Nil wc W → Calls Try.prog 11 #[.pointer (some ⟨bb, 0, none⟩)] W fun e w' => e = .returned (.int .i64 l'.length) ∧ w' = W from fun W hW => lenX (hPc'.out.b.x.nil hW))
        have e1 : (l'.length != l'.length) = false := by simp
        have e2 : ((l'.length : Int) != (l'.length : Int)) = false := by simp
        obtain ⟨n', hn'⟩ : ∃ n', l'.length = n' := ⟨_, rfl⟩
        rw [hn'] at hr1 hLn e1 e2 hl' hlm'
        have hn'' := Lib.hid hn'
        clear hRB hn' hRe
        go_wp2_with fail
        go_quiet ((go_at_call 11; exact Calls.quiet_of_same (hLn.out _ ((Keeps.refl Nil wc).drewN _))))
        go_wp2_with fail
        go_roundw
        case rel => exact ⟨i + 1, l', O', R', by omega, by rw [hn''.out]; omega, by rw [hn''.out]; omega, by go_num, hPc'.out.nil ((Keeps.refl Nil wc).drewN _)⟩
        case measure => simp [intOf]; omega
    · as_aux_lemma =>
      have hcase : (i < ops.length ∧ ¬ i < 120) ∨ ¬ i < ops.length := by omega
      have hKe := Lib.hid (keysX hP'.out.b.x (by omega))
      obtain ⟨n, hn⟩ : ∃ n, l.length = n := ⟨_, rfl⟩
      have e1 : (n != n) = false := by simp
      have e2 : ((n : Int) != (n : Int)) = false := by simp
      obtain ⟨ra, rc, hRB, hRe⟩ := hP'.out.r
      have hRB' := Lib.hid hRB
      have hn' := Lib.hid hn
      rw [hn] at hKe hli hlm
      clear hin hRB hRe hn
      rcases hcase with ⟨hi1, hi2⟩ | hi1
      all_goals
        go_wp2_with fail
        refine (hKe.out).mono ?_
        rintro e wk ⟨ak, capk, rfl, hrk, hkk, hgk⟩
        have hrk' := Lib.hid hrk
        have hkk' := Lib.hid hkk
        have hRk := Lib.hid (hRB'.out.keeps hkk (fun _ _ h => h))
        have hr1 := cell_of_heap hRk.out.head 1
        simp at hr1
        rw [hn'.out] at hr1
        clear hrk hkk hgk
        go_wp2_with fail
        go_loopw [25] (fun c wx => ∃ p : Nat, p ≤ n ∧ c = .int .i64 p ∧ Keeps Nil wk wx) (fun c _ => n - (intOf c).toNat)
        case atStart => exact ⟨0, Nat.zero_le _, rfl, Keeps.refl _ _⟩
        case round =>
          obtain ⟨p, hp, rfl, hkx⟩ := hrel
          have hkx' := Lib.hid hkx
          by_cases hlt : p < n
          · have hpl : p < l.length := by rw [hn'.out]; exact hlt
            obtain ⟨b1, off1, rfl, g1⟩ := (hrk'.out.ints.keeps hkx (fun _ _ _ h => h)) p (by rw [ikeys_len]; exact hpl)
            obtain ⟨g, rfl, -, -, hcl⟩ := (hRk.out.keeps hkx (fun _ _ h => h)).row.cell itC_len (List.getElem?_eq_getElem hpl)
            have g2 := hcl 0 (.int .i64 l[p].key) (by decide) rfl
            have hgk2 : gi (ikeys l) p = l[p].key := by rw [gi_eq (by rw [ikeys_len]; exact hpl)]; simp [ikeys]
            rw [hgk2] at g1
            rw [Nat.add_zero] at g2
            have g3 := hkx.cell hr1 (fun h => h)
            obtain ⟨kq, hkq⟩ : ∃ kq, l[p].key = kq := ⟨_, rfl⟩
            rw [hkq] at g1 g2
            have e3 : (kq != kq) = false := by simp
            clear hkx hcl hgk2 hkq hpl
            go_wp2_with fail
            go_quiet (fail)
            go_wp2_with fail
            go_roundw
            case rel => exact ⟨p + 1, by omega, by go_num, hkx'.out.drewN _⟩
            case measure => simp [intOf]; omega
          · clear hkx
            go_wp2_with fail
            go_ret
            exact ⟨rfl, (hP'.out.b.k.trans hkk'.out).trans hkx'.out⟩
end Go.Proofs.Ytcejapdjkkmkaaa
