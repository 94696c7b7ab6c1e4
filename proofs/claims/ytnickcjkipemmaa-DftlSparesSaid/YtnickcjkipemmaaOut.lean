/- walks of out and first -/
import Derived.Test.YtnickcjkipemmaaChecked
import Derived.Test.YtnickcjkipemmaaRing
import Derived.BigRegion
namespace Go.Proofs.Ytnickcjkipemmaa
open Go.RowKit

attribute [local go_sem ↓] Go.wp_at_zero Go.wp_at_succ

set_option maxHeartbeats 1000000 in
theorem out_any (xb xo ub uo vb vo : Nat) (w : World) (c1 : w.cell? ⟨xb, xo + 3, none⟩ = some (.pointer (some ⟨ub, uo, none⟩))) (c2 : w.cell? ⟨xb, xo + 4, none⟩ = some (.pointer (some ⟨vb, vo, none⟩)))
    (yu yv : Value) (cu : w.cell? ⟨ub, uo + 4, none⟩ = some yu) (cv : w.cell? ⟨vb, vo + 3, none⟩ = some yv) (hne : ub = vb → uo = vo) (hu : ub ≠ xb) (hv : vb ≠ xb) (fu : w.frozen? ⟨ub, uo + 4, none⟩ = false) (fv : w.frozen? ⟨vb, vo + 3, none⟩ = false) :
    Calls Try.prog 42 #[.pointer (some ⟨xb, xo, none⟩)] w fun e w' => e = .returned (.tuple #[]) ∧ w' = ((w.setCell ⟨ub, uo + 4, none⟩ (.pointer (some ⟨vb, vo, none⟩))).setCell ⟨vb, vo + 3, none⟩ (.pointer (some ⟨ub, uo, none⟩))).drew := by
  have k1 : (w.setCell ⟨ub, uo + 4, none⟩ (.pointer (some ⟨vb, vo, none⟩))).cell? ⟨vb, vo + 3, none⟩ = some yv := by
    rw [World.cell?_setCell_other _ _ _ _ (fun h => by cases h; have := hne rfl; omega)]; exact cv
  have k2 : (w.setCell ⟨vb, vo + 3, none⟩ (.pointer (some ⟨ub, uo, none⟩))).cell? ⟨ub, uo + 4, none⟩ = some yu := by
    rw [World.cell?_setCell_other _ _ _ _ (fun h => by cases h; have := hne rfl; omega)]; exact cu
  clear hne
  go_enter Try.func42, Try.ntmps42
  go_wp2
  go_region_held3 (fun w' => w'.cell? ⟨xb, xo + 3, none⟩ = some (.pointer (some ⟨ub, uo, none⟩)) ∧ w'.cell? ⟨xb, xo + 4, none⟩ = some (.pointer (some ⟨vb, vo, none⟩))) ((go_split_ands; refine ⟨?_, ?_⟩ <;> (first | (go_keep; done) | (simp only [World.cell?_drew, World.setCell_drew, World.cell?_setCell_far _ _ _ _ hu, World.cell?_setCell_far _ _ _ _ hv]; assumption)))) (fail)
  go_wp2
  go_end0
  exact ⟨rfl, rfl⟩

set_option maxHeartbeats 1000000 in
theorem first_any (cb xb vb vo : Nat) (w : World) (y3 y4 yv : Value) (c6 : w.cell? ⟨cb, 6, none⟩ = some (.pointer (some ⟨vb, vo, none⟩))) (x3 : w.cell? ⟨xb, 3, none⟩ = some y3) (x4 : w.cell? ⟨xb, 4, none⟩ = some y4) (cv : w.cell? ⟨vb, vo + 3, none⟩ = some yv)
    (fx3 : w.frozen? ⟨xb, 3, none⟩ = false) (fx4 : w.frozen? ⟨xb, 4, none⟩ = false) (fc : w.frozen? ⟨cb, 6, none⟩ = false) (fv : w.frozen? ⟨vb, vo + 3, none⟩ = false) (hcx : cb ≠ xb) (hvx : vb ≠ xb) (hvc : vb = cb → vo = 2) :
    Calls Try.prog 41 #[.pointer (some ⟨cb, 0, none⟩), .pointer (some ⟨xb, 0, none⟩)] w fun e w' => e = .returned (.tuple #[]) ∧
      w' = ((((w.setCell ⟨xb, 3, none⟩ (.pointer (some ⟨cb, 2, none⟩))).setCell ⟨xb, 4, none⟩ (.pointer (some ⟨vb, vo, none⟩))).setCell ⟨cb, 6, none⟩ (.pointer (some ⟨xb, 0, none⟩))).setCell ⟨vb, vo + 3, none⟩ (.pointer (some ⟨xb, 0, none⟩))).drew.drew := by
  have hxc := Ne.symm hcx
  have hxv := Ne.symm hvx
  have a1 : (w.setCell ⟨xb, 3, none⟩ (.pointer (some ⟨cb, 2, none⟩))).cell? ⟨xb, 4, none⟩ = some y4 := by
    rw [World.cell?_setCell_other _ _ _ _ (fun h => by cases h)]; exact x4
  have a2 : ((w.setCell ⟨xb, 3, none⟩ (.pointer (some ⟨cb, 2, none⟩))).setCell ⟨xb, 4, none⟩ (.pointer (some ⟨vb, vo, none⟩))).cell? ⟨xb, 3, none⟩ = some (.pointer (some ⟨cb, 2, none⟩)) := by
    rw [World.cell?_setCell_other _ _ _ _ (fun h => by cases h)]; exact World.cell?_setCell_same _ _ _ x3
  have a3 : ((w.setCell ⟨xb, 3, none⟩ (.pointer (some ⟨cb, 2, none⟩))).setCell ⟨xb, 4, none⟩ (.pointer (some ⟨vb, vo, none⟩))).cell? ⟨xb, 4, none⟩ = some (.pointer (some ⟨vb, vo, none⟩)) := World.cell?_setCell_same _ _ _ a1
  have a4 : ((w.setCell ⟨xb, 3, none⟩ (.pointer (some ⟨cb, 2, none⟩))).setCell ⟨xb, 4, none⟩ (.pointer (some ⟨vb, vo, none⟩))).cell? ⟨cb, 6, none⟩ = some (.pointer (some ⟨vb, vo, none⟩)) := by
    rw [World.cell?_setCell_far _ _ _ _ hxc, World.cell?_setCell_far _ _ _ _ hxc]; exact c6
  have a5 : (((w.setCell ⟨xb, 3, none⟩ (.pointer (some ⟨cb, 2, none⟩))).setCell ⟨xb, 4, none⟩ (.pointer (some ⟨vb, vo, none⟩))).setCell ⟨cb, 6, none⟩ (.pointer (some ⟨xb, 0, none⟩))).cell? ⟨vb, vo + 3, none⟩ = some yv := by
    rw [World.cell?_setCell_other _ _ _ _ (fun h => by cases h; have := hvc rfl; omega), World.cell?_setCell_far _ _ _ _ hxv, World.cell?_setCell_far _ _ _ _ hxv]; exact cv
  clear hvc
  go_enter Try.func41, Try.ntmps41
  go_wp2
  go_region_held3 (fun w' => w'.cell? ⟨cb, 6, none⟩ = some (.pointer (some ⟨vb, vo, none⟩))) (first | (go_keep; done) | (simp only [World.cell?_drew, World.setCell_drew, World.cell?_setCell_far _ _ _ _ hxc]; assumption)) (fail)
  go_wp2
  go_region_held3 (fun w' => w'.cell? ⟨xb, 3, none⟩ = some (.pointer (some ⟨cb, 2, none⟩)) ∧ w'.cell? ⟨xb, 4, none⟩ = some (.pointer (some ⟨vb, vo, none⟩))) ((go_split_ands; refine ⟨?_, ?_⟩ <;> (first | (go_keep; done) | (simp only [World.cell?_drew, World.setCell_drew, World.cell?_setCell_far _ _ _ _ hcx, World.cell?_setCell_far _ _ _ _ hvx]; assumption)))) (fail)
  go_wp2
  go_end0
  exact ⟨rfl, rfl⟩
end Go.Proofs.Ytnickcjkipemmaa
