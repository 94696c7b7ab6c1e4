/- stripe: the plain laws of leaves together -/
import Derived.Test.YtdgcbjkopmlegaaM
namespace Go.Proofs.Ytdgcbjkopmlegaa
open Go.RowKit

section
variable {α : Type} {f : α → α → α} {P : α → Prop}
theorem zip_all (hc : ∀ a b, P a → P b → P (f a b)) : ∀ (ys xs : List α), (∀ a ∈ ys, P a) → (∀ a ∈ xs, P a) → ∀ a ∈ zipTo f ys xs, P a
  | [], _, _, _, a, h => by cases h
  | y :: ys, [], h1, _, a, h => h1 a h
  | y :: ys, x :: xs, h1, h2, a, h => by
    rcases List.mem_cons.1 h with h | h
    · rw [h]; exact hc _ _ (h1 y (by simp)) (h2 x (by simp))
    · exact zip_all hc ys xs (fun a ha => h1 a (List.mem_cons_of_mem _ ha)) (fun a ha => h2 a (List.mem_cons_of_mem _ ha)) a h
theorem zip_comm (hc : ∀ a b, P a → P b → f a b = f b a) : ∀ (ys xs : List α), ys.length = xs.length → (∀ a ∈ ys, P a) → (∀ a ∈ xs, P a) → zipTo f ys xs = zipTo f xs ys
  | [], [], _, _, _ => rfl
  | [], x :: xs, h, _, _ => by simp at h
  | y :: ys, [], h, _, _ => by simp at h
  | y :: ys, x :: xs, h, h1, h2 => by
    simp only [zipTo]
    rw [hc _ _ (h1 y (by simp)) (h2 x (by simp)), zip_comm hc ys xs (by simpa using h) (fun a ha => h1 a (List.mem_cons_of_mem _ ha)) (fun a ha => h2 a (List.mem_cons_of_mem _ ha))]
theorem zip_assoc (hc : ∀ a b c, P a → P b → P c → f (f a b) c = f a (f b c)) : ∀ (zs ys xs : List α), zs.length = ys.length → ys.length = xs.length → (∀ a ∈ zs, P a) → (∀ a ∈ ys, P a) → (∀ a ∈ xs, P a) → zipTo f (zipTo f zs ys) xs = zipTo f zs (zipTo f ys xs)
  | [], [], [], _, _, _, _, _ => rfl
  | [], y :: ys, _, h, _, _, _, _ => by simp at h
  | z :: zs, [], _, h, _, _, _, _ => by simp at h
  | [], [], x :: xs, _, h, _, _, _ => by simp at h
  | z :: zs, y :: ys, [], _, h, _, _, _ => by simp at h
  | z :: zs, y :: ys, x :: xs, h, h', h0, h1, h2 => by
    simp only [zipTo]
    rw [hc _ _ _ (h0 z (by simp)) (h1 y (by simp)) (h2 x (by simp)), zip_assoc hc zs ys xs (by simpa using h) (by simpa using h') (fun a ha => h0 a (List.mem_cons_of_mem _ ha)) (fun a ha => h1 a (List.mem_cons_of_mem _ ha)) (fun a ha => h2 a (List.mem_cons_of_mem _ ha))]
theorem zip_self {e : α} (hc : ∀ a, P a → f a a = e) : ∀ (xs : List α), (∀ a ∈ xs, P a) → zipTo f xs xs = List.replicate xs.length e
  | [], _ => rfl
  | x :: xs, h => by
    simp only [zipTo, List.length_cons, List.replicate_succ]
    rw [hc x (h x (by simp)), zip_self hc xs (fun a ha => h a (List.mem_cons_of_mem _ ha))]
theorem zip_zero {e : α} (hc : ∀ a, P a → f e a = a) : ∀ (xs : List α), (∀ a ∈ xs, P a) → zipTo f (List.replicate xs.length e) xs = xs
  | [], _ => rfl
  | x :: xs, h => by
    simp only [List.length_cons, List.replicate_succ, zipTo]
    rw [hc x (h x (by simp)), zip_zero hc xs (fun a ha => h a (List.mem_cons_of_mem _ ha))]
end

theorem addTo_zip (k : IntKind) : ∀ ys xs, addTo k ys xs = zipTo (bits .xor k) ys xs
  | [], _ => rfl
  | y :: ys, [] => rfl
  | y :: ys, x :: xs => by simp only [addTo, zipTo, addTo_zip k ys xs]

theorem ofInt_i64 (a : Nat) (ha : a < 9223372036854775808) : (BitVec.ofInt 64 (a : Int)).toNat = a := by
  rw [BitVec.ofInt_natCast, BitVec.toNat_ofNat]; exact Nat.mod_eq_of_lt (by omega)
theorem i64_xor_nat (a b : Nat) (ha : a < 9223372036854775808) (hb : b < 9223372036854775808) : bits .xor .i64 (a : Int) (b : Int) = ((a ^^^ b : Nat) : Int) := by
  have hx : a ^^^ b < 2 ^ 63 := Nat.xor_lt_two_pow (by omega) (by omega)
  show IntKind.i64.wrap ((BitVec.ofInt 64 (a : Int) ^^^ BitVec.ofInt 64 (b : Int)).toNat : Int) = _
  rw [BitVec.toNat_xor, ofInt_i64 a ha, ofInt_i64 b hb, IntKind.wrap_i64]
  omega

/-- xor of numbers below 2^m is that of naturals -/
structure XorLike (g : Int → Int → Int) (m : Nat) : Prop where
  nat : ∀ a b : Nat, a < 2 ^ m → b < 2 ^ m → g a b = ((a ^^^ b : Nat) : Int)
def Low (m : Nat) (a : Int) : Prop := ∃ n : Nat, a = n ∧ n < 2 ^ m
section
variable {g : Int → Int → Int} {m : Nat}
theorem XorLike.cl (h : XorLike g m) {a b : Int} (ha : Low m a) (hb : Low m b) : Low m (g a b) := by
  obtain ⟨x, rfl, hx⟩ := ha
  obtain ⟨y, rfl, hy⟩ := hb
  exact ⟨x ^^^ y, h.nat x y hx hy, Nat.xor_lt_two_pow hx hy⟩
theorem XorLike.comm (h : XorLike g m) {a b : Int} (ha : Low m a) (hb : Low m b) : g a b = g b a := by
  obtain ⟨x, rfl, hx⟩ := ha
  obtain ⟨y, rfl, hy⟩ := hb
  rw [h.nat x y hx hy, h.nat y x hy hx, Nat.xor_comm]
theorem XorLike.assoc (h : XorLike g m) {a b c : Int} (ha : Low m a) (hb : Low m b) (hc : Low m c) : g (g a b) c = g a (g b c) := by
  obtain ⟨x, rfl, hx⟩ := ha
  obtain ⟨y, rfl, hy⟩ := hb
  obtain ⟨z, rfl, hz⟩ := hc
  rw [h.nat x y hx hy, h.nat y z hy hz, h.nat _ z (Nat.xor_lt_two_pow hx hy) hz, h.nat x _ hx (Nat.xor_lt_two_pow hy hz), Nat.xor_assoc]
theorem XorLike.self (h : XorLike g m) {a : Int} (ha : Low m a) : g a a = 0 := by
  obtain ⟨x, rfl, hx⟩ := ha
  rw [h.nat x x hx hx, Nat.xor_self]; rfl
theorem XorLike.zero (h : XorLike g m) {a : Int} (ha : Low m a) : g 0 a = a := by
  obtain ⟨x, rfl, hx⟩ := ha
  have := h.nat 0 x (Nat.two_pow_pos m) hx
  rw [Nat.zero_xor] at this
  exact this
end
theorem xl8 : XorLike (bits .xor .u8) 8 := ⟨fun a b ha hb => u8_xor_nat a b (by omega) (by omega)⟩
theorem xl32 : XorLike (bits .xor .u32) 32 := ⟨fun a b ha hb => u32_xor_nat a b (by omega) (by omega)⟩
theorem xl48 : XorLike (bits .xor .u64) 48 := ⟨fun a b ha hb => u64_xor_nat a b (by omega) (by omega)⟩
theorem xl2 : XorLike (bits .xor .i64) 2 := ⟨fun a b ha hb => i64_xor_nat a b (by omega) (by omega)⟩
theorem low_of {m : Nat} {a : Int} (h0 : 0 ≤ a) (h1 : a.toNat < 2 ^ m) : Low m a := ⟨a.toNat, by omega, h1⟩

def SlL (s : Sl) : Prop := Low 32 s.key ∧ Low 2 s.st ∧ Low 48 s.seq
theorem SlOk.low {s : Sl} (h : SlOk s) : SlL s := ⟨low_of h.1.1 (by have := h.1.2; omega), low_of h.2.1.1 (by have := h.2.1.2; omega), low_of h.2.2.1 (by have := h.2.2.2; omega)⟩
theorem SlL.ok {s : Sl} (h : SlL s) : SlOk s := by
  obtain ⟨⟨a, ha, hb⟩, ⟨c, hc, hd⟩, ⟨e, he, hf⟩⟩ := h
  refine ⟨⟨?_, ?_⟩, ⟨?_, ?_⟩, ?_, ?_⟩ <;> omega
theorem slXor_cl (a b : Sl) (ha : SlL a) (hb : SlL b) : SlL (slXor a b) := ⟨xl32.cl ha.1 hb.1, xl2.cl ha.2.1 hb.2.1, xl48.cl ha.2.2 hb.2.2⟩
theorem slXor_comm (a b : Sl) (ha : SlL a) (hb : SlL b) : slXor a b = slXor b a := by unfold slXor; rw [xl32.comm ha.1 hb.1, xl2.comm ha.2.1 hb.2.1, xl48.comm ha.2.2 hb.2.2]
theorem slXor_assoc (a b c : Sl) (ha : SlL a) (hb : SlL b) (hc : SlL c) : slXor (slXor a b) c = slXor a (slXor b c) := by
  unfold slXor
  simp only
  rw [xl32.assoc ha.1 hb.1 hc.1, xl2.assoc ha.2.1 hb.2.1 hc.2.1, xl48.assoc ha.2.2 hb.2.2 hc.2.2]
theorem slXor_self (a : Sl) (ha : SlL a) : slXor a a = sl0 := by unfold slXor; rw [xl32.self ha.1, xl2.self ha.2.1, xl48.self ha.2.2]; rfl
theorem slXor_zero (a : Sl) (ha : SlL a) : slXor sl0 a = a := by
  show (⟨bits .xor .u32 0 a.key, bits .xor .i64 0 a.st, bits .xor .u64 0 a.seq⟩ : Sl) = a
  rw [xl32.zero ha.1, xl2.zero ha.2.1, xl48.zero ha.2.2]

def SecL (S : Nat) (d : List Int) : Prop := d.length = S ∧ ∀ v ∈ d, Low 8 v
theorem SecOk.low {S : Nat} {d : List Int} (h : SecOk S d) : SecL S d := ⟨h.1, fun v hv => low_of (h.2 v hv).1 (by have := (h.2 v hv).2; omega)⟩
theorem SecL.ok {S : Nat} {d : List Int} (h : SecL S d) : SecOk S d := ⟨h.1, fun v hv => by obtain ⟨a, ha, hb⟩ := h.2 v hv; constructor <;> omega⟩
theorem sec_cl {S : Nat} (a b : List Int) (ha : SecL S a) (hb : SecL S b) : SecL S (addTo .u8 a b) := ⟨by rw [addTo_len]; exact ha.1, by rw [addTo_zip]; exact zip_all (P := Low 8) (fun _ _ h1 h2 => xl8.cl h1 h2) a b ha.2 hb.2⟩
theorem sec_comm {S : Nat} (a b : List Int) (ha : SecL S a) (hb : SecL S b) : addTo .u8 a b = addTo .u8 b a := by rw [addTo_zip, addTo_zip]; exact zip_comm (P := Low 8) (fun _ _ h1 h2 => xl8.comm h1 h2) a b (ha.1.trans hb.1.symm) ha.2 hb.2
theorem sec_assoc {S : Nat} (a b c : List Int) (ha : SecL S a) (hb : SecL S b) (hc : SecL S c) : addTo .u8 (addTo .u8 a b) c = addTo .u8 a (addTo .u8 b c) := by
  simp only [addTo_zip]
  exact zip_assoc (P := Low 8) (fun _ _ _ h1 h2 h3 => xl8.assoc h1 h2 h3) a b c (ha.1.trans hb.1.symm) (hb.1.trans hc.1.symm) ha.2 hb.2 hc.2
theorem sec_self {S : Nat} (a : List Int) (ha : SecL S a) : addTo .u8 a a = zeroD S := by
  rw [addTo_zip, zip_self (P := Low 8) (e := 0) (fun _ h1 => xl8.self h1) a ha.2, ha.1]; rfl
theorem sec_zero {S : Nat} (a : List Int) (ha : SecL S a) : addTo .u8 (zeroD S) a = a := by
  have := zip_zero (P := Low 8) (e := 0) (f := bits .xor .u8) (fun _ h1 => xl8.zero h1) a ha.2
  rw [ha.1] at this
  rw [addTo_zip]; exact this

section
variable {S n : Nat} {x y z : Lf}
theorem Right.slL (h : Right S n x) : ∀ s ∈ x.sl, SlL s := fun s hs => (h.sl s hs).low
theorem Right.seL (h : Right S n x) : ∀ d ∈ x.se, SecL S d := fun d hd => (h.se d hd).low
theorem Right.join (hy : Right S n y) (hx : Right S n x) : Right S n (joinLf y x) :=
  ⟨by rw [(joinLf_len y x).1]; exact hy.l1, by rw [(joinLf_len y x).2]; exact hy.l2, fun s hs => (zip_all (P := SlL) slXor_cl _ _ hy.slL hx.slL s hs).ok, fun d hd => (zip_all (P := SecL S) sec_cl _ _ hy.seL hx.seL d hd).ok⟩
theorem join_comm (hy : Right S n y) (hx : Right S n x) : joinLf y x = joinLf x y := by
  unfold joinLf
  rw [zip_comm (P := SlL) slXor_comm _ _ (hy.l1.trans hx.l1.symm) hy.slL hx.slL, zip_comm (P := SecL S) sec_comm _ _ (hy.l2.trans hx.l2.symm) hy.seL hx.seL]
theorem join_assoc (hz : Right S n z) (hy : Right S n y) (hx : Right S n x) : joinLf (joinLf z y) x = joinLf z (joinLf y x) := by
  unfold joinLf
  simp only
  rw [zip_assoc (P := SlL) slXor_assoc _ _ _ (hz.l1.trans hy.l1.symm) (hy.l1.trans hx.l1.symm) hz.slL hy.slL hx.slL, zip_assoc (P := SecL S) sec_assoc _ _ _ (hz.l2.trans hy.l2.symm) (hy.l2.trans hx.l2.symm) hz.seL hy.seL hx.seL]
theorem join_self (hx : Right S n x) : joinLf x x = zeroLf S n := by
  unfold joinLf
  rw [zip_self (P := SlL) slXor_self _ hx.slL, zip_self (P := SecL S) sec_self _ hx.seL, hx.l1, hx.l2]; rfl
theorem join_zero (hx : Right S n x) : joinLf (zeroLf S n) x = x := by
  have h1 := zip_zero (P := SlL) slXor_zero _ hx.slL
  have h2 := zip_zero (P := SecL S) sec_zero _ hx.seL
  rw [hx.l1] at h1
  rw [hx.l2] at h2
  show (⟨zipTo slXor (List.replicate n sl0) x.sl, zipTo (addTo .u8) (List.replicate n (zeroD S)) x.se⟩ : Lf) = x
  rw [h1, h2]
theorem Right.zero : Right S n (zeroLf S n) :=
  ⟨by simp [zeroLf], by simp [zeroLf], fun s hs => by
    obtain ⟨_, rfl⟩ := List.mem_replicate.1 hs
    exact ⟨⟨by decide, by decide⟩, ⟨by decide, by decide⟩, by decide, by decide⟩, fun d hd => by
    obtain ⟨_, rfl⟩ := List.mem_replicate.1 hd
    exact ⟨by simp [zeroD], fun v hv => by obtain ⟨_, rfl⟩ := List.mem_replicate.1 hv; exact ⟨by decide, by decide⟩⟩⟩
theorem join_zero' (hx : Right S n x) : joinLf x (zeroLf S n) = x := by rw [join_comm hx Right.zero, join_zero hx]
theorem fold_right : ∀ {L : List Lf} {y : Lf}, Right S n y → (∀ x ∈ L, Right S n x) → Right S n (L.foldl joinLf y)
  | [], _, hy, _ => hy
  | x :: r, y, hy, h => fold_right (L := r) (y := joinLf y x) (hy.join (h x (by simp))) (fun a ha => h a (List.mem_cons_of_mem _ ha))
theorem sumL_right {L : List Lf} (h : ∀ x ∈ L, Right S n x) : Right S n (sumL S n L) := fold_right Right.zero h
theorem fold_app : ∀ {L : List Lf} {y : Lf}, Right S n y → (∀ x ∈ L, Right S n x) → L.foldl joinLf y = joinLf y (sumL S n L)
  | [], y, hy, _ => (join_zero' hy).symm
  | x :: r, y, hy, h => by
    have hx := h x (by simp)
    have hr : ∀ a ∈ r, Right S n a := fun a ha => h a (List.mem_cons_of_mem _ ha)
    have e : sumL S n (x :: r) = joinLf x (sumL S n r) := by
      show r.foldl joinLf (joinLf (zeroLf S n) x) = _
      rw [join_zero hx, fold_app hx hr]
    rw [List.foldl_cons, fold_app (hy.join hx) hr, e, join_assoc hy hx (sumL_right hr)]
theorem sumL_app {A B : List Lf} (hA : ∀ x ∈ A, Right S n x) (hB : ∀ x ∈ B, Right S n x) : sumL S n (A ++ B) = joinLf (sumL S n A) (sumL S n B) := by
  show (A ++ B).foldl joinLf (zeroLf S n) = _
  rw [List.foldl_append]
  exact fold_app (sumL_right hA) hB
theorem sumL_one (hx : Right S n x) : sumL S n [x] = x := join_zero hx
theorem sumL_turn {A B : List Lf} (hA : ∀ x ∈ A, Right S n x) (hB : ∀ x ∈ B, Right S n x) : sumL S n (A ++ B) = sumL S n (B ++ A) := by
  rw [sumL_app hA hB, sumL_app hB hA, join_comm (sumL_right hA) (sumL_right hB)]
theorem sumL_twice {A : List Lf} (hA : ∀ x ∈ A, Right S n x) (hx : Right S n x) : sumL S n (A ++ [x] ++ [x]) = sumL S n A := by
  have h1 : ∀ y ∈ A ++ [x], Right S n y := fun y hy => by
    rcases List.mem_append.1 hy with h | h
    · exact hA y h
    · simp at h; rw [h]; exact hx
  rw [sumL_app h1 (fun y hy => by simp at hy; rw [hy]; exact hx), sumL_app hA (fun y hy => by simp at hy; rw [hy]; exact hx), sumL_one hx, join_assoc (sumL_right hA) hx hx, join_self hx, join_zero' (sumL_right hA)]
theorem Right.may (hx : Right S n x) : mayB S n x = true := by
  unfold mayB
  have a : x.sl.any slBad = false := by
    cases hb : x.sl.any slBad
    · rfl
    · obtain ⟨s, hs, hs2⟩ := List.any_eq_true.1 hb
      have := hx.sl s hs
      unfold slBad at hs2
      simp only [decide_eq_true_eq] at hs2
      have h1 := this.2.1.1; have h2 := this.2.1.2; have h3 := this.2.2.2
      omega
  have b : x.se.any (secBad S) = false := by
    cases hb : x.se.any (secBad S)
    · rfl
    · obtain ⟨s, hs, hs2⟩ := List.any_eq_true.1 hb
      have := (hx.se s hs).1
      unfold secBad at hs2
      simp only [decide_eq_true_eq] at hs2
      omega
  rw [a, b, decide_eq_true (by rw [hx.l1]), decide_eq_true (by rw [hx.l2])]; rfl
theorem right_all {L : List Lf} (h : ∀ x ∈ L, Right S n x) : sumIf S n L = some (sumL S n L) := sumIf_yes (List.all_eq_true.2 fun x hx => (h x hx).may)
theorem Right.ok (hx : Right S n x) (hS : S ≤ 1000000) (hn : n ≤ 1000000) : LfOk x := ⟨by rw [hx.l1]; omega, by rw [hx.l2]; omega, fun i hi => by rw [(hx.se _ (List.getElem_mem hi)).1]; omega⟩
end
end Go.Proofs.Ytdgcbjkopmlegaa
