/- nand: awake; bytes as a string -/
import Derived.Test.YtglpacdenfoicaaNeH
import Derived.Laws.BytesArg
import Derived.Lib.SlBytesConst
namespace Go.Proofs.Ytglpacdenfoicaa
open Go.RowKit

attribute [local go_sem ↓] Go.wp_at_zero Go.wp_at_succ
/-- bytes as a string -/
theorem run_str {w : World} {a : Option Addr} {cap : Nat} {d : List Int} (h : NumsAt .u8 w a d) : (convert 22 9 (.slice a d.length cap)).run Try.prog w = .ok (.string (strOfNums d)) w := by
  cases a with
  | none =>
    have : d = [] := by
      cases d with
      | nil => rfl
      | cons x r => obtain ⟨b, off, e, _⟩ := h 0 (by simp); cases e
    subst this
    exact run_convert_bytes_nil w 22 5 Try.underlying22 Try.underlying5 _ _ 9 Try.underlying9
  | some ad =>
    cases hd : d with
    | nil =>
      rw [run_convert_bytes_string w 22 9 5 _ _ cap Try.underlying22 Try.underlying5 Try.underlying9, List.length_nil, run_bytesToString w ad 0 cap [] (by
        have := run_loadCells_list (P := Try.prog) w ad [] (fun j v hj => by simp at hj)
        simpa using this)]
      rfl
    | cons x r =>
      obtain ⟨b, off, e, _⟩ := h 0 (by rw [hd]; simp)
      cases e
      rw [← hd]
      exact run_convert_bytes_arg w 22 5 Try.underlying22 Try.underlying5 b off d.length cap d rfl (fun i hi => by
        obtain ⟨b', off', e, hc⟩ := h i hi
        cases e
        rw [hc]; rfl) 9 Try.underlying9
/-- a row of numbers just written -/
theorem nums_lit (w : World) {k : IntKind} {E : TypeId} {fr : Nat × Nat} (l : List Int) : NumsAt k (w.alloc (.cells (l.map (Value.int k)).toArray E fr)) (some ⟨w.heap.size, 0, none⟩) l := by
  intro j hj
  refine ⟨_, 0, rfl, ?_⟩
  rw [cell_of_heap (heap_alloc_new w (.cells (l.map (Value.int k)).toArray E fr)), Nat.zero_add]
  simp [hj, gi_eq hj]
/-- Program of bytes just written -/
theorem prog_lit {w0 w : World} {ab b : Nat} {A : Nd} {O : Nat → Prop} (h : NdO w0 w ab A b O) (hb : b ≤ 1000000) (d n p : Int) (l : List Int) {fr : Nat × Nat} {A' : Nd} {r : Int} (hr : A.programI d n p l = (r, A')) {m c : Nat} (hm : m = l.length) (hc : l.length ≤ c) :
    Calls Try.prog 13 #[.pointer (some ⟨ab, 0, none⟩), .int .i64 d, .int .i64 n, .int .i64 p, .slice (some ⟨w.heap.size, 0, none⟩) m c] (w.alloc (.cells (l.map (Value.int .u8)).toArray 5 fr)) (NdRes w0 (w.alloc (.cells (l.map (Value.int .u8)).toArray 5 fr)) ab O (.int .i64 r) A' (b + 1)) := by
  subst hm
  have := programI_any h hb ((Keeps.refl Nil w).alloc (.cells (l.map (Value.int .u8)).toArray 5 fr)) d n p (nums_lit w l) (fun g hg => .inr (by simp [blk] at hg; omega)) hc
  rw [hr] at this
  exact this
def cF : Ft := ⟨5, 2, 0, 0, 0, 0, 1, [], 0⟩
def cS : Sh := ⟨1, 2, 2, 2⟩
def cA0 : Nd := Nd.new cS [cF]
def cA1 : Nd := (cA0.programI 0 0 0 [97, 98]).2
def cA2 : Nd := (cA1.readI 0 0 0).2
def cA3 : Nd := (cA2.programI 0 0 1 [99, 100]).2
def cA4 : Nd := { cA3 with off := false }
def cA5 : Nd := (cA4.readI 0 0 1).2
theorem cA1_r : cA0.programI 0 0 0 [97, 98] = (0, cA1) := by kernel_rfl
theorem cA2_r : (cA1.readI 0 0 0).1 = 0 := by kernel_rfl
theorem cA2_o : cA1.readOutI 0 0 0 = some [97, 98] := by kernel_rfl
theorem cA3_r : cA2.programI 0 0 1 [99, 100] = (40, cA3) := by kernel_rfl
theorem cA3_o : (!cA3.off) = false := by kernel_rfl
theorem cA5_r : (cA4.readI 0 0 1).1 = 0 := by kernel_rfl
theorem cA5_o : cA4.readOutI 0 0 1 = some [99, 255] := by kernel_rfl
theorem cA5_n : cA5.nextI 0 0 = 2 := by kernel_rfl
theorem cA5_p : cA5.ops = 4 := by kernel_rfl
theorem cF_may : cF.may cS = true := by decide
end Go.Proofs.Ytglpacdenfoicaa
