/- Drop, Get, Take, Keys -/
import Derived.Test.YtcejapdjkkmkaaaE
namespace Go.Proofs.Ytcejapdjkkmkaaa
open Go.RowKit

attribute [local go_sem ↓] Go.wp_at_zero Go.wp_at_succ

variable {w : World} {bb mb kcap : Nat} {ka : Option Addr} {most : Int} {L : List Rec}

theorem drop_end {w1 w3 : World} (h : BufS w bb mb ka kcap most L) {k : Int} (hin : k ∈ bkeys L) (hrow : KeyRow w1 ka kcap ((bkeys L).erase k)) (k1 : Keeps (fun j => blk ka = some j) w w1)
    (hm : MapAt w3 mb (mdel k (bents L))) (hk : Keeps (· = mb) (w1.setCell ⟨bb, 1, none⟩ (.slice ka (L.length - 1) kcap)) w3) : PutOut w bb mb ka most (bdel k L) (.bool true) (.returned (.bool true)) w3 := by
  have hkeys := bkeys_del k L
  have hl : (bdel k L).length = L.length - 1 := by rw [← bkeys_length, hkeys, List.length_erase_of_mem hin, bkeys_length]
  have n3 : ¬ blk ka = some bb := fun e => h.row.ne h.blk (by decide) e rfl
  have n4 : ¬ blk ka = some mb := fun e => h.row.nem h.map e rfl
  have hbb : (w1.setCell ⟨bb, 1, none⟩ (.slice ka (L.length - 1) kcap)).heap[bb]? = some (.cells #[.int .i64 most, .slice ka (L.length - 1) kcap, .map (some mb)] 61) := by
    rw [heap_setCell_same (k1.heap h.blk n3)]; rfl
  have kA : Keeps (wown bb mb ka) w (w1.setCell ⟨bb, 1, none⟩ (.slice ka (L.length - 1) kcap)) := (k1.mono (fun j hj => .inr (.inr hj))).setCell (.inl (.inl rfl)) _
  have kB : Keeps (wown bb mb ka) w w3 := kA.trans (hk.mono (fun j hj => .inr (.inl hj)))
  refine ⟨rfl, ka, kcap, ⟨by rw [hl]; exact hk.heap hbb (fun e => h.mne e.symm), ?_, by rw [← mdel_bents]; exact hm, fun y hy => (h.data y (mem_bdel hy)).keeps kB (fun g hg => h.dne (mem_bdel hy) hg), fun y hy => h.dlen y (mem_bdel hy), by rw [hkeys]; exact h.nodup.erase _⟩, kB, .inl rfl⟩
  rw [hkeys]
  exact RowAt.keeps (RowAt.keeps hrow ((Keeps.refl (· = bb) w1).setCell (.inl rfl) _) (fun g hg e => n3 (e ▸ hg))) hk (fun g hg e => n4 (e ▸ hg))

set_option maxHeartbeats 1000000 in
theorem drop_out (h : BufS w bb mb ka kcap most L) {k : Int} (hk : k ∉ bkeys L) (hl : L.length ≤ 1000000) :
    Calls Try.prog 18 #[.pointer (some ⟨bb, 0, none⟩), .int .i64 k] w fun e w' => e = .returned (.bool false) ∧ w' = w := by
  have c1 := cell_of_heap h.blk 1
  simp at c1
  have hC := Lib.hid (by have := index_any (cap := kcap) h.row.ints k (by rw [bkeys_length]; omega); rw [kidx_out hk, bkeys_length] at this; exact this)
  clear h hk
  go_enter Try.func18, Try.ntmps18
  go_wp2_with fail
  refine (hC.out).mono ?_
  rintro e w2 ⟨rfl, rfl⟩
  go_wp2_with fail
  go_ret
  exact ⟨rfl, rfl⟩

set_option maxHeartbeats 1000000 in
theorem drop_in (h : BufS w bb mb ka kcap most L) {k : Int} (hk : k ∈ bkeys L) (hl : L.length ≤ 1000000) :
    Calls Try.prog 18 #[.pointer (some ⟨bb, 0, none⟩), .int .i64 k] w (PutOut w bb mb ka most (bdel k L) (.bool true)) := by
  have c1 := cell_of_heap h.blk 1
  have c2 := cell_of_heap h.blk 2
  simp at c1 c2
  have f1 := frozen_of_heap h.blk 1
  have hbl := lt_of_heap h.blk
  have hC := Lib.hid (by have := index_any (cap := kcap) h.row.ints k (by rw [bkeys_length]; omega); rw [bkeys_length] at this; exact this)
  obtain ⟨j, hj, hji, hje⟩ := kidx_in (i := 0) hk
  rw [Nat.zero_add] at hji
  have hjl : j < L.length := by rwa [bkeys_length] at hj
  rw [hji] at hC
  obtain ⟨g, rfl⟩ : ∃ g, ka = some ⟨g, 0, none⟩ := by
    rcases h.row.form with ⟨_, h2, _⟩ | ⟨g, cur, ha, _⟩
    · rw [bkeys_length] at h2; omega
    · exact ⟨g, ha⟩
  have n3 := Lib.hid (show ¬ bb = g from fun e => h.row.ne h.blk (by decide) rfl e.symm)
  have n4 := Lib.hid (show ¬ mb = g from fun e => h.row.nem h.map rfl e.symm)
  have n1 := Lib.hid (show ¬ mb = bb from h.mne)
  have hD := Lib.hid (by have := delete_any h.row hj (by rw [bkeys_length]; omega); rw [bkeys_length, hje] at this; exact this)
  have h' := Lib.hid h
  have hk' := Lib.hid hk
  clear h hk hje hji hj
  go_enter Try.func18, Try.ntmps18
  go_wp2_with fail
  refine (hC.out).mono ?_
  rintro e w2 ⟨rfl, rfl⟩
  go_wp2_with fail
  refine (hD.out).mono ?_
  rintro e w3 ⟨rfl, hr3, hk3, hz3⟩
  have c1' := hk3.cell c1 n3.out
  have c2' := hk3.cell c2 n3.out
  have f1' := hk3.frozen f1 hbl n3.out
  have hmp := Lib.hid (h'.out.map.keeps hk3 n4.out)
  have hr3' := Lib.hid hr3
  have hk3' := Lib.hid hk3
  clear hr3 hk3 hz3 c1 c2 f1
  go_wp2_with (at_delete; refine wpList_del _ rfl _ _ 59 3 rfl 65 Try.underlying59 Try.underlying3 mb _ rfl (hmp.out.keeps ((Keeps.refl (· = bb) _).setCell (.inl rfl) _) n1.out) k rfl ?_; intro w4 hm4 hk4 hz4; have hm4' := Lib.hid hm4; have hk4' := Lib.hid hk4; clear hm4 hk4 hz4)
  go_ret
  exact drop_end h'.out hk'.out hr3'.out (hk3'.out.mono (fun j hj => by rw [hj]; rfl)) hm4'.out hk4'.out

theorem zeroD (w : World) : DataAt w none [] := DataAt.nil w none
end Go.Proofs.Ytcejapdjkkmkaaa
