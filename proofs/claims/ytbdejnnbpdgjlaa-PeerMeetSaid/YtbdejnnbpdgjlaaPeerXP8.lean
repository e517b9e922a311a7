/- Contracts of functions over the abstract machine. No conditions: lemmas alone. -/
import Derived.Test.YtbdejnnbpdgjlaaPeerXLibD
import Derived.Test.YtbdejnnbpdgjlaaPeerXP0
import Derived.Test.YtbdejnnbpdgjlaaPeerXP7
import Derived.Test.YtbdejnnbpdgjlaaPeerXP3
namespace Go.Proofs.Ytbdejnnbpdgjlaa.Ax
open Go Go.RowKit
open Nat renaming reduceAdd → ν1, reduceMul → ν2, reduceLeDiff → ν3, reduceLT → ν4, reduceSub → ν5
open Int renaming reduceNe → ζ1, reduceEq → ζ2, reduceLE → ζ3, reduceLT → ζ4, reduceToNat → ζ5
set_option linter.unusedVariables false
set_option linter.unusedSimpArgs false
set_option maxRecDepth 100000
set_option maxHeartbeats 20000000
attribute [local irreducible] thenA blockA scopeA retA AL AW AD ADL AH clrK CallA apure aload bload appK ptrK fnK ares szOk planOk okOps
theorem d142_SoO {g n : Prop} (k : n) (h : n → g := by first | exact AW.dr (id := 6) (by rfl) [0, 1, 2, 3, 4, 5, 6, 7, 8, 9] (by kernel_rfl) (by kernel_rfl) | exact AW.dr (id := 11) (by rfl) [0, 1, 2, 3, 4, 5, 6, 7, 8, 9] (by kernel_rfl) (by kernel_rfl)) : g := h k
theorem idx_spec (v : Value) (xs : List Int) (y : Int) (M : Mem) (hv : Sl M v 1 (ints .u32 xs)) (hl : xs.length ≤ 1000000000) : CallA Try.prog 149 [v, .int .u32 y] M fun r M' => M' = M ∧ ∃ i : Int, r = .int .i64 i ∧ (0 ≤ i ↔ y ∈ xs) := by
 have hs := hv.isSl
 have hn := hv.lnI
 (refine CallA.of_body Try.func149 rfl (by rfl) ?_; simp only [Try.ntmps149, List.length_cons, List.length_nil, List.replicate, List.cons_append, List.nil_append, Nat.reduceSub, Nat.reduceAdd])
 (repeat (first | refine st ?_ | refine σa ?_ | (refine σb ?_; simp (disch := omega) only [push_cast, ↓reduceIte, reduceCtorEq, ν1, ν2, ν3, ν4, ν5, ζ1, ζ2, ζ3, ζ4, ζ5, hs, hn])))
 refine AW.loopF [4, 5, 8, 9, 10, 11, 12, 13, 14, 15, 16, 17, 18] (fun m f M' => ∃ i : Nat, f 8 = .int .i64 i ∧ i + m = xs.length ∧ M' = M ∧ ∀ q, q < i → xs.getD q 0 ≠ y) xs.length ?_ ?_
 ·exact ⟨0, rfl, by omega, rfl, fun q h => by omega⟩
 rintro m f M1 ⟨i, h8, hi, rfl, hno⟩
 simp (disch := omega) only [push_cast, ↓reduceIte, reduceCtorEq, Nat.reduceAdd, Nat.reduceMul, Nat.reduceLeDiff, Nat.reduceLT, Nat.reduceSub, Int.reduceNe, Int.reduceEq, Int.reduceLE, Int.reduceLT, Int.reduceToNat, h8]
 (repeat (first | refine st ?_ | refine σa ?_ | (refine σb ?_; simp (disch := omega) only [push_cast, ↓reduceIte, reduceCtorEq, ν1, ν2, ν3, ν4, ν5, ζ1, ζ2, ζ3, ζ4, ζ5])))
 ((first | refine AL.gu rfl (fun h => ?_) (fun h => ?_) | refine AW.condS rfl rfl (fun h => ?_) (fun h => ?_)) <;> (try (have h' := h; simp only [Bool.not_eq_true', Bool.not_eq_false', Bool.not_true, Bool.not_false, decide_eq_true_eq, decide_eq_false_iff_not, Classical.not_not, Int.not_lt, Int.not_le, gt_iff_lt, ge_iff_le, beq_iff_eq] at h')))
 ·have hil : i < xs.length := by omega
  have hld := hv.ldN (P := Try.prog) (ty := 30) (i := i) (by kernel_rfl) hil
  (repeat (first | refine st ?_ | refine σa ?_ | (refine σb ?_; simp (disch := omega) only [push_cast, ↓reduceIte, reduceCtorEq, ν1, ν2, ν3, ν4, ν5, ζ1, ζ2, ζ3, ζ4, ζ5, hs, hn, hld, Int.toNat_natCast])))
  ((first | refine AL.gu rfl (fun he => ?_) (fun he => ?_) | refine AW.condS rfl rfl (fun he => ?_) (fun he => ?_)) <;> (try (have he' := he; simp only [Bool.not_eq_true', Bool.not_eq_false', Bool.not_true, Bool.not_false, decide_eq_true_eq, decide_eq_false_iff_not, Classical.not_not, Int.not_lt, Int.not_le, gt_iff_lt, ge_iff_le, beq_iff_eq] at he')))
  ·(repeat (first | refine st ?_ | refine σa ?_ | (refine σb ?_; simp (disch := omega) only [push_cast, ↓reduceIte, reduceCtorEq, ν1, ν2, ν3, ν4, ν5, ζ1, ζ2, ζ3, ζ4, ζ5])))
   ((first | refine retA.ret (by rfl) ?_ | refine retA.normal (by rfl) ?_); simp (disch := omega) only [push_cast, ↓reduceIte, reduceCtorEq, Nat.reduceAdd, Nat.reduceMul, Nat.reduceLeDiff, Nat.reduceLT, Nat.reduceSub, Int.reduceNe, Int.reduceEq, Int.reduceLE, Int.reduceLT, Int.reduceToNat])
   exact ⟨i, rfl, fun _ => by rw [he']; exact getD_mem hil, fun _ => by omega⟩
  ·(repeat (first | refine st ?_ | refine σa ?_ | (refine σb ?_; simp (disch := omega) only [push_cast, ↓reduceIte, reduceCtorEq, ν1, ν2, ν3, ν4, ν5, ζ1, ζ2, ζ3, ζ4, ζ5, w_i64])))
   refine ⟨rfl, m - 1, by omega, i + 1, rfl, by omega, rfl, fun q hq => ?_⟩
   by_cases e : q = i
   ·rw [e]; exact fun h => he' h.symm
   ·exact hno q (by omega)
 ·(repeat (first | refine st ?_ | refine σa ?_ | (refine σb ?_; simp (disch := omega) only [push_cast, ↓reduceIte, reduceCtorEq, ν1, ν2, ν3, ν4, ν5, ζ1, ζ2, ζ3, ζ4, ζ5])))
  ((first | refine retA.ret (by rfl) ?_ | refine retA.normal (by rfl) ?_); simp (disch := omega) only [push_cast, ↓reduceIte, reduceCtorEq, Nat.reduceAdd, Nat.reduceMul, Nat.reduceLeDiff, Nat.reduceLT, Nat.reduceSub, Int.reduceNe, Int.reduceEq, Int.reduceLE, Int.reduceLT, Int.reduceToNat])
  refine ⟨-1, rfl, fun h => absurd h (by decide), fun h => ?_⟩
  obtain ⟨q, hq, e⟩ := List.mem_iff_getElem.1 h
  exact absurd ((getD_lt hq).trans e) (hno q (by omega))
theorem has_spec (v : Value) (xs : List Int) (y : Int) (M : Mem) (hv : Sl M v 1 (ints .u32 xs)) (hl : xs.length ≤ 1000000000) : CallA Try.prog 145 [v, .int .u32 y] M fun r M' => M' = M ∧ r = .bool (decide (y ∈ xs)) := by
 (refine CallA.of_body Try.func145 rfl (by rfl) ?_; simp only [Try.ntmps145, List.length_cons, List.length_nil, List.replicate, List.cons_append, List.nil_append, Nat.reduceSub, Nat.reduceAdd])
 (repeat (first | refine st ?_ | refine σa ?_ | (refine σb ?_; simp (disch := omega) only [push_cast, ↓reduceIte, reduceCtorEq, ν1, ν2, ν3, ν4, ν5, ζ1, ζ2, ζ3, ζ4, ζ5])))
 refine (idx_spec v xs y M hv hl).mono ?_
 rintro r M1 ⟨rfl, i, rfl, hi⟩
 (repeat (first | refine st ?_ | refine σa ?_ | (refine σb ?_; simp (disch := omega) only [push_cast, ↓reduceIte, reduceCtorEq, ν1, ν2, ν3, ν4, ν5, ζ1, ζ2, ζ3, ζ4, ζ5])))
 ((first | refine retA.ret (by rfl) ?_ | refine retA.normal (by rfl) ?_); simp (disch := omega) only [push_cast, ↓reduceIte, reduceCtorEq, Nat.reduceAdd, Nat.reduceMul, Nat.reduceLeDiff, Nat.reduceLT, Nat.reduceSub, Int.reduceNe, Int.reduceEq, Int.reduceLE, Int.reduceLT, Int.reduceToNat])
 simp only [hi, ge_iff_le]
def ddN (xs : List Int) : Nat → List Int
 | 0 => []
 | n + 1 => if 0 < n ∧ xs.getD n 0 = xs.getD (n - 1) 0 then ddN xs n else ddN xs n ++ [xs.getD n 0]
theorem ddN_plain {xs : List Int} : ∀ {n}, (∀ q, 0 < q → q < n → xs.getD q 0 ≠ xs.getD (q - 1) 0) → n ≤ xs.length → ddN xs n = xs.take n
 | 0, _, _ => by simp [ddN]
 | n + 1, h, hl => by
  unfold ddN
  rw [if_neg (fun hc => h n hc.1 (by omega) hc.2), ddN_plain (fun q h1 h2 => h q h1 (by omega)) (by omega), take_snocI (by omega)]
theorem ddN_mem {xs : List Int} {x : Int} : ∀ {n}, x ∈ ddN xs n ↔ ∃ q, q < n ∧ xs.getD q 0 = x
 | 0 => by simp [ddN]
 | n + 1 => by
  have ih := ddN_mem (xs := xs) (x := x) (n := n)
  unfold ddN
  split
  ·rename_i hc
   rw [ih]
   constructor
   ·rintro ⟨q, h1, h2⟩; exact ⟨q, by omega, h2⟩
   ·rintro ⟨q, h1, h2⟩
    by_cases e : q = n
    ·subst e; exact ⟨q - 1, by omega, hc.2.symm.trans h2⟩
    ·exact ⟨q, by omega, h2⟩
  ·rw [List.mem_append, ih, List.mem_singleton]
   constructor
   ·rintro (⟨q, h1, h2⟩ | h)
    ·exact ⟨q, by omega, h2⟩
    ·exact ⟨n, by omega, h.symm⟩
   ·rintro ⟨q, h1, h2⟩
    by_cases e : q = n
    ·subst e; exact .inr h2.symm
    ·exact .inl ⟨q, by omega, h2⟩
theorem ddN_rise {xs : List Int} : ∀ {n}, SortOn 0 n xs → (ddN xs n).Pairwise (· < ·)
 | 0, _ => .nil
 | n + 1, h => by
  have ih := ddN_rise (xs := xs) (n := n) (fun i j h1 h2 h3 => h i j h1 h2 (by omega))
  unfold ddN
  split
  ·exact ih
  ·rename_i hc
   rw [List.pairwise_append]
   refine ⟨ih, by simp, fun x hx y hy => ?_⟩
   obtain ⟨q, h1, h2⟩ := ddN_mem.1 hx
   obtain rfl := List.mem_singleton.1 hy
   have l1 := h q n (by omega) h1 (by omega)
   by_cases e : 0 < n
   ·have l2 : q = n - 1 ∨ xs.getD q 0 ≤ xs.getD (n - 1) 0 := by
     by_cases e : q = n - 1
     ·exact .inl e
     ·exact .inr (h q (n - 1) (by omega) (by omega) (by omega))
    have l3 := h (n - 1) n (by omega) (by omega) (by omega)
    have l4 : xs.getD n 0 ≠ xs.getD (n - 1) 0 := fun e' => hc ⟨e, e'⟩
    rcases l2 with rfl | l2
    ·omega
    ·omega
   ·omega
theorem comp_spec (v : Value) (xs : List Int) (M : Mem) (hv : Own M v 1 (ints .u32 xs)) (hl : xs.length ≤ 1000000000) :
  CallA Try.prog 142 [v] M fun r M' => Sl M' r 1 (ints .u32 (ddN xs xs.length)) ∧ Fr M M' (blkOf v) ∧ (∀ b ∈ blkOf r, b ∈ blkOf v) := by
 have hs := hv.sl.isSl
 have hn := hv.sl.lnI
 (refine CallA.of_body Try.func142 rfl (by rfl) ?_; simp only [Try.ntmps142, List.length_cons, List.length_nil, List.replicate, List.cons_append, List.nil_append, Nat.reduceSub, Nat.reduceAdd])
 (repeat (first | refine st ?_ | refine σa ?_ | refine d142_SoO ?_ | ((first | refine σb ?_ | refine σc ?_); simp (disch := omega) only [push_cast, ↓reduceIte, reduceCtorEq, ν1, ν2, ν3, ν4, ν5, ζ1, ζ2, ζ3, ζ4, ζ5, hs, hn])))
 ((first | refine AL.gu rfl (fun h2 => ?_) (fun h2 => ?_) | refine AW.condS rfl rfl (fun h2 => ?_) (fun h2 => ?_)) <;> (try (have h2' := h2; simp only [Bool.not_eq_true', Bool.not_eq_false', Bool.not_true, Bool.not_false, decide_eq_true_eq, decide_eq_false_iff_not, Classical.not_not, Int.not_lt, Int.not_le, gt_iff_lt, ge_iff_le, beq_iff_eq] at h2')))
 ·(repeat (first | refine st ?_ | refine σa ?_ | refine d142_SoO ?_ | ((first | refine σb ?_ | refine σc ?_); simp (disch := omega) only [push_cast, ↓reduceIte, reduceCtorEq, ν1, ν2, ν3, ν4, ν5, ζ1, ζ2, ζ3, ζ4, ζ5])))
  ((first | refine retA.ret (by rfl) ?_ | refine retA.normal (by rfl) ?_); simp (disch := omega) only [push_cast, ↓reduceIte, reduceCtorEq, Nat.reduceAdd, Nat.reduceMul, Nat.reduceLeDiff, Nat.reduceLT, Nat.reduceSub, Int.reduceNe, Int.reduceEq, Int.reduceLE, Int.reduceLT, Int.reduceToNat])
  rw [ddN_plain (fun q h1 h2 => by omega) (Nat.le_refl _), List.take_length]
  exact ⟨hv.sl, (Fr.refl M).cut (by simp), fun b h => h⟩
 ·rcases hv.rw with ⟨rfl, h0⟩ | ⟨b, off, c, pre, rfl, hR⟩
  ·exact absurd h2' (by simp)
  have hbk : blkOf (.slice (some ⟨b, off, none⟩) xs.length c) = [b] := by show (if c = 0 then [] else [b]) = [b]; rw [if_neg hR.pos]
  (repeat (first | refine st ?_ | refine σa ?_ | refine d142_SoO ?_ | ((first | refine σb ?_ | refine σc ?_); simp (disch := omega) only [push_cast, ↓reduceIte, reduceCtorEq, ν1, ν2, ν3, ν4, ν5, ζ1, ζ2, ζ3, ζ4, ζ5])))
  refine AW.loopF [2, 3, 4, 5, 10, 11, 12, 13, 14, 15, 16, 17, 18, 19, 20, 21, 22, 23, 24, 25, 26, 27, 28, 29, 30, 31, 32, 33, 34, 35, 36, 37, 38, 39, 40, 41, 42, 43, 44, 45, 46, 47, 48, 49, 50, 51, 52, 53, 54, 55, 56, 57, 58, 59] (fun m f M' => ∃ k : Nat, f 3 = .int .i64 k ∧ 1 ≤ k ∧ k ≤ xs.length ∧ k + m = xs.length ∧ M' = M ∧ ∀ q, 0 < q → q < k → xs.getD q 0 ≠ xs.getD (q - 1) 0) (xs.length - 1) ?_ ?_
  ·exact ⟨1, rfl, by omega, by omega, by omega, rfl, fun q h1 h2 => by omega⟩
  rintro m f M1 ⟨k, h3, hk1, hk2, hm, rfl, hno⟩
  simp (disch := omega) only [push_cast, ↓reduceIte, reduceCtorEq, Nat.reduceAdd, Nat.reduceMul, Nat.reduceLeDiff, Nat.reduceLT, Nat.reduceSub, Int.reduceNe, Int.reduceEq, Int.reduceLE, Int.reduceLT, Int.reduceToNat, h3]
  (repeat (first | refine st ?_ | refine σa ?_ | refine d142_SoO ?_ | ((first | refine σb ?_ | refine σc ?_); simp (disch := omega) only [push_cast, ↓reduceIte, reduceCtorEq, ν1, ν2, ν3, ν4, ν5, ζ1, ζ2, ζ3, ζ4, ζ5])))
  ((first | refine AL.gu rfl (fun hlt => ?_) (fun hlt => ?_) | refine AW.condS rfl rfl (fun hlt => ?_) (fun hlt => ?_)) <;> (try (have hlt' := hlt; simp only [Bool.not_eq_true', Bool.not_eq_false', Bool.not_true, Bool.not_false, decide_eq_true_eq, decide_eq_false_iff_not, Classical.not_not, Int.not_lt, Int.not_le, gt_iff_lt, ge_iff_le, beq_iff_eq] at hlt')))
  ·have l1 := hR.ld (i := k) (by omega)
   have l2 := hR.ld (i := k - 1) (by omega)
   (repeat (first | refine st ?_ | refine σa ?_ | refine d142_SoO ?_ | ((first | refine σb ?_ | refine σc ?_); simp (disch := omega) only [push_cast, ↓reduceIte, reduceCtorEq, ν1, ν2, ν3, ν4, ν5, ζ1, ζ2, ζ3, ζ4, ζ5, l1, l2, tn_sub1, w_i64, Int.toNat_natCast])))
   ((first | refine AL.gu rfl (fun he => ?_) (fun he => ?_) | refine AW.condS rfl rfl (fun he => ?_) (fun he => ?_)) <;> (try (have he' := he; simp only [Bool.not_eq_true', Bool.not_eq_false', Bool.not_true, Bool.not_false, decide_eq_true_eq, decide_eq_false_iff_not, Classical.not_not, Int.not_lt, Int.not_le, gt_iff_lt, ge_iff_le, beq_iff_eq] at he')))
   ·have hsz := hv.sl.sz
    have hbl : b < M1.length := hR.lt
    have hfr : aslice (.slice (some ⟨b, off, none⟩) xs.length c) 1 (some (.int .i64 (k : Int))) none none = some (.slice (some ⟨b, off + k, none⟩) (xs.length - k) (capSub c k)) := by
     rw [aslice_from (by omega), Nat.mul_one]
    (repeat (first | refine st ?_ | refine σa ?_ | refine d142_SoO ?_ | ((first | refine σb ?_ | refine σc ?_); simp (disch := omega) only [push_cast, ↓reduceIte, reduceCtorEq, ν1, ν2, ν3, ν4, ν5, ζ1, ζ2, ζ3, ζ4, ζ5, hsz, hfr, Option.map_none, Option.map_some])))
    refine AW.loopF [3, 5, 29, 30, 31, 32, 33, 34, 35, 36, 37, 38, 39, 40, 41, 42, 43, 44, 45, 46, 47, 48, 49, 50, 51, 52, 53] (fun m g M' => ∃ q : Nat, g 3 = .int .i64 q ∧ ∃ u : Nat, g 5 = .int .i64 u ∧ 1 ≤ u ∧ k + u + m = xs.length ∧ k ≤ q ∧ q + 1 ≤ k + u ∧ ∃ ys, M' = M1.set b (.row true 1 (pre ++ ints .u32 ys ++ [])) ∧ ys.length = xs.length ∧ ys.take q = ddN xs (k + u) ∧ ∀ p, q ≤ p → p < xs.length → ys.getD p 0 = xs.getD p 0) (xs.length - k - 1) ?_ ?_
    ·refine ⟨k, rfl, 1, rfl, by omega, by omega, by omega, by omega, xs, hR.same.symm, rfl, ?_, fun p h1 h2 => rfl⟩
     rw [show k + 1 = k + 1 from rfl, ddN, if_pos ⟨by omega, he'⟩, ddN_plain hno hk2]
    clear l1 l2 hfr h3 hlt hlt' hsz hno
    rintro m2 g M2 ⟨q, h3, u, h5, hu1, hum, hq1, hq2, ys, rfl, hyl, hyt, hyo⟩
    have hR2 := hR.put (ys := ys) hyl
    have hsz : szOk (M1.set b (.row true 1 (pre ++ ints .u32 ys ++ []))) (.slice (some ⟨b, off, none⟩) xs.length c) 1 := hR2.own.sl.sz
    simp (disch := omega) only [push_cast, ↓reduceIte, reduceCtorEq, Nat.reduceAdd, Nat.reduceMul, Nat.reduceLeDiff, Nat.reduceLT, Nat.reduceSub, Int.reduceNe, Int.reduceEq, Int.reduceLE, Int.reduceLT, Int.reduceToNat, h3, h5]
    (repeat (first | refine st ?_ | refine σa ?_ | refine d142_SoO ?_ | ((first | refine σb ?_ | refine σc ?_); simp (disch := omega) only [push_cast, ↓reduceIte, reduceCtorEq, ν1, ν2, ν3, ν4, ν5, ζ1, ζ2, ζ3, ζ4, ζ5])))
    ((first | refine AL.gu rfl (fun hw => ?_) (fun hw => ?_) | refine AW.condS rfl rfl (fun hw => ?_) (fun hw => ?_)) <;> (try (have hw' := hw; simp only [Bool.not_eq_true', Bool.not_eq_false', Bool.not_true, Bool.not_false, decide_eq_true_eq, decide_eq_false_iff_not, Classical.not_not, Int.not_lt, Int.not_le, gt_iff_lt, ge_iff_le, beq_iff_eq] at hw')))
    ·have l1 : aload Try.prog 30 (M1.set b (.row true 1 (pre ++ ints .u32 ys ++ []))) b (off + k + u) = some (.int .u32 (xs.getD (k + u) 0)) := by
      rw [Nat.add_assoc, hR2.ld (by omega), hyo (k + u) (by omega) (by omega)]
     have l2 : aload Try.prog 30 (M1.set b (.row true 1 (pre ++ ints .u32 ys ++ []))) b (off + k + (u - 1)) = some (.int .u32 (xs.getD (k + u - 1) 0)) := by
      rw [Nat.add_assoc, hR2.ld (by omega), show k + (u - 1) = k + u - 1 by omega, hyo (k + u - 1) (by omega) (by omega)]
     (repeat (first | refine st ?_ | refine σa ?_ | refine d142_SoO ?_ | ((first | refine σb ?_ | refine σc ?_); simp (disch := omega) only [push_cast, ↓reduceIte, reduceCtorEq, ν1, ν2, ν3, ν4, ν5, ζ1, ζ2, ζ3, ζ4, ζ5, l1, l2, tn_sub1, w_i64, Int.toNat_natCast])))
     ((first | refine AL.gu rfl (fun hne => ?_) (fun hne => ?_) | refine AW.condS rfl rfl (fun hne => ?_) (fun hne => ?_)) <;> (try (have hne' := hne; simp only [Bool.not_eq_true', Bool.not_eq_false', Bool.not_true, Bool.not_false, decide_eq_true_eq, decide_eq_false_iff_not, Classical.not_not, Int.not_lt, Int.not_le, gt_iff_lt, ge_iff_le, beq_iff_eq] at hne')))
     ·have hR3 := hR.put (ys := ys.set q (xs.getD (k + u) 0)) (by simp; omega)
      (repeat (first | refine st ?_ | refine σa ?_ | refine d142_SoO ?_ | ((first | refine σb ?_ | refine σc ?_); simp (disch := omega) only [push_cast, ↓reduceIte, reduceCtorEq, ν1, ν2, ν3, ν4, ν5, ζ1, ζ2, ζ3, ζ4, ζ5, l1, tn_sub1, w_i64, Int.toNat_natCast, hR2.get, hR2.room, hR2.spl, Option.some.injEq, exists_eq_left', List.set_set, List.length_set, Blk.put, Blk.ours, Blk.cells])))
      refine ⟨rfl, m2 - 1, by omega, q + 1, rfl, u + 1, rfl, by omega, by omega, by omega, by omega, ys.set q (xs.getD (k + u) 0), rfl, by simp; omega, ?_, fun p h1 h2 => ?_⟩
      ·rw [show k + (u + 1) = k + u + 1 by omega, ddN, if_neg (fun hc => hne' hc.2), ← hyt, take_snocI (by simp; omega), List.take_set_of_le (by omega)]
       rw [getD_lt (by simp; omega), List.getElem_set_self]
      ·rw [List.getD_eq_getElem?_getD, List.getElem?_set_ne (by omega), ← List.getD_eq_getElem?_getD]
       exact hyo p (by omega) h2
     ·(repeat (first | refine st ?_ | refine σa ?_ | refine d142_SoO ?_ | ((first | refine σb ?_ | refine σc ?_); simp (disch := omega) only [push_cast, ↓reduceIte, reduceCtorEq, ν1, ν2, ν3, ν4, ν5, ζ1, ζ2, ζ3, ζ4, ζ5, w_i64])))
      refine ⟨rfl, m2 - 1, by omega, q, rfl, u + 1, rfl, by omega, by omega, by omega, by omega, ys, rfl, hyl, ?_, hyo⟩
      rw [show k + (u + 1) = k + u + 1 by omega, ddN, if_pos ⟨by omega, hne'⟩, hyt]
    ·have hq3 : q ≤ xs.length := by omega
     have hcap : q ≤ capLb c := Nat.le_trans hq3 hR.cap
     have hfr : aslice (.slice (some ⟨b, off, none⟩) xs.length c) 1 (some (.int .i64 (q : Int))) none none = some (.slice (some ⟨b, off + q, none⟩) (xs.length - q) (capSub c q)) := by
      rw [aslice_from hq3, Nat.mul_one]
     have hto := aslice_to (b := b) (off := off) (n := xs.length) (s := 1) hcap
     (repeat (first | refine st ?_ | refine σa ?_ | refine d142_SoO ?_ | ((first | refine σb ?_ | refine σc ?_); simp (disch := omega) only [push_cast, ↓reduceIte, reduceCtorEq, ν1, ν2, ν3, ν4, ν5, ζ1, ζ2, ζ3, ζ4, ζ5, hsz, hfr, Option.map_none, Option.map_some])))
     unfold clrK
     refine ⟨b, off + q, xs.length - q, capSub c q, 30, [.int .u32 0], .row true 1 (pre ++ ints .u32 ys ++ []), rfl, by kernel_rfl, by kernel_rfl, by decide, hR2.get, rfl, rfl, ?_, ?_⟩
     ·have := hR.off; simp [Blk.cells, ints]; omega
     have hyq : k + u = xs.length := by omega
     have hM := hR2.get
     simp only [Blk.put, Blk.cells, List.set_set]
     generalize hz : zerosOf [Value.int .u32 0] (xs.length - q) = zs
     have hzl : zs.length = xs.length - q := by rw [← hz, zerosOf_length]; simp
     have hsz2 : szOk (M1.set b (.row true 1 (spl (pre ++ ints .u32 ys ++ []) (off + q) zs))) (.slice (some ⟨b, off, none⟩) xs.length c) 1 := by
      unfold szOk
      refine ⟨by omega, fun a n' c' B hv _ hB => ?_⟩
      cases hv
      rw [List.getElem?_set_self hR.lt] at hB
      obtain rfl := Option.some.inj hB
      rfl
     (repeat (first | refine st ?_ | refine σa ?_ | refine d142_SoO ?_ | ((first | refine σb ?_ | refine σc ?_); simp (disch := omega) only [push_cast, ↓reduceIte, reduceCtorEq, ν1, ν2, ν3, ν4, ν5, ζ1, ζ2, ζ3, ζ4, ζ5, hsz2, hto, Option.map_none, Option.map_some])))
     ((first | refine retA.ret (by rfl) ?_ | refine retA.normal (by rfl) ?_); simp (disch := omega) only [push_cast, ↓reduceIte, reduceCtorEq, Nat.reduceAdd, Nat.reduceMul, Nat.reduceLeDiff, Nat.reduceLT, Nat.reduceSub, Int.reduceNe, Int.reduceEq, Int.reduceLE, Int.reduceLT, Int.reduceToNat])
     have hbr : ∀ x ∈ blkOf (.slice (some ⟨b, off, none⟩) q (capSub c 0)), x ∈ blkOf (.slice (some ⟨b, off, none⟩) xs.length c) := by rw [capSub_zero]; exact fun x h => h
     refine ⟨?_, by rw [hbk]; exact Fr.set _ _ _, hbr⟩
     have hdl : (ddN xs xs.length).length = q := by rw [← hyq, ← hyt, List.length_take]; omega
     have hoff := hR.off
     refine Sl.at (by omega) (List.getElem?_set_self hR.lt) ?_ ?_ (by simp [ints]; omega) (ints_one _ _) (by rw [capSub_zero]; exact hcap)
     ·simp [spl, Blk.cells, ints]; omega
     ·rw [ints_length, hdl]
      simp only [spl, Blk.cells, List.append_nil]
      have e1 : (pre ++ ints .u32 ys).take (off + q) = pre ++ ints .u32 (ddN xs xs.length) := by
       rw [← hoff, List.take_length_add_append, ints_take, hyt, hyq]
      rw [e1, List.append_assoc, List.append_assoc, ← hoff, List.drop_left]
      rw [List.take_append_of_le_length (by rw [ints_length]; omega), List.take_of_length_le (by rw [ints_length]; omega)]
   ·(repeat (first | refine st ?_ | refine σa ?_ | refine d142_SoO ?_ | ((first | refine σb ?_ | refine σc ?_); simp (disch := omega) only [push_cast, ↓reduceIte, reduceCtorEq, ν1, ν2, ν3, ν4, ν5, ζ1, ζ2, ζ3, ζ4, ζ5, w_i64])))
    refine ⟨rfl, m - 1, by omega, k + 1, rfl, by omega, by omega, by omega, rfl, fun q h1 h2 => ?_⟩
    by_cases e : q = k
    ·rw [e]; exact he'
    ·exact hno q h1 (by omega)
  ·(repeat (first | refine st ?_ | refine σa ?_ | refine d142_SoO ?_ | ((first | refine σb ?_ | refine σc ?_); simp (disch := omega) only [push_cast, ↓reduceIte, reduceCtorEq, ν1, ν2, ν3, ν4, ν5, ζ1, ζ2, ζ3, ζ4, ζ5])))
   ((first | refine retA.ret (by rfl) ?_ | refine retA.normal (by rfl) ?_); simp (disch := omega) only [push_cast, ↓reduceIte, reduceCtorEq, Nat.reduceAdd, Nat.reduceMul, Nat.reduceLeDiff, Nat.reduceLT, Nat.reduceSub, Int.reduceNe, Int.reduceEq, Int.reduceLE, Int.reduceLT, Int.reduceToNat])
   rw [ddN_plain (fun q h1 h2 => hno q h1 (by omega)) (Nat.le_refl _), List.take_length]
   exact ⟨hv.sl, (Fr.refl M1).cut (by simp), fun b h => h⟩
def segP : Nat → List Int → Option (List Int)
 | 0, _ => none
 | f + 1, xs => if xs = [] then some [] else if xs.length < 2 ∨ xs.getD 0 0 ≠ 2 ∨ xs.getD 1 0 = 0 ∨ xs.length - 2 < 4 * (xs.getD 1 0).toNat then none
   else (segP f (xs.drop (2 + 4 * (xs.getD 1 0).toNat))).map fun l => words (xs.drop 2) (xs.getD 1 0).toNat ++ l
def pathP (xs : List Int) : Option (List Int) := (segP (xs.length + 1) xs).bind fun l => if l.length ≤ 255 ∧ 0 ∉ l then some l else none
theorem segP_fuel : ∀ {f g : Nat} {xs : List Int}, xs.length < f → xs.length < g → segP f xs = segP g xs
 | 0, _, _, h, _ => absurd h (Nat.not_lt_zero _)
 | _, 0, _, _, h => absurd h (Nat.not_lt_zero _)
 | f + 1, g + 1, xs, h1, h2 => by
  unfold segP
  split
  ·rfl
  ·rename_i hne
   split
   ·rfl
   ·have hp : 0 < xs.length := List.length_pos_iff.2 hne
    rw [segP_fuel (f := f) (g := g) (by rw [List.length_drop]; omega) (by rw [List.length_drop]; omega)]
theorem words_take (xs : List Int) (k : Nat) : words (xs.take (4 * k)) k = words xs k := by
 unfold words
 apply List.map_congr_left
 intro j hj
 have hj := List.mem_range.1 hj
 unfold wordAt
 have h : ∀ i, i < 4 * k → (xs.take (4 * k)).getD i 0 = xs.getD i 0 := fun i hi => by
  rw [List.getD_eq_getElem?_getD, List.getD_eq_getElem?_getD, List.getElem?_take, if_pos hi]
 rw [h _ (by omega), h _ (by omega), h _ (by omega), h _ (by omega)]
theorem pathP_none {xs ys out : List Int} (h : segP (xs.length + 1) xs = (segP (ys.length + 1) ys).map fun l => out ++ l) (h2 : segP (ys.length + 1) ys = none) : pathP xs = none := by
 unfold pathP; rw [h, h2]; rfl
theorem segP_bad {ys : List Int} (h : ys ≠ []) (h2 : ys.length < 2 ∨ ys.getD 0 0 ≠ 2 ∨ ys.getD 1 0 = 0 ∨ ys.length - 2 < 4 * (ys.getD 1 0).toNat) : segP (ys.length + 1) ys = none := by
 unfold segP; rw [if_neg h, if_pos h2]
theorem segP_good {ys : List Int} {q : Nat} (h : ys ≠ []) (h1 : 2 ≤ ys.length) (h2 : ys.getD 0 0 = 2) (h3 : ys.getD 1 0 = q) (h4 : 0 < q) (h5 : 2 + 4 * q ≤ ys.length) : segP (ys.length + 1) ys = (segP ((ys.drop (2 + 4 * q)).length + 1) (ys.drop (2 + 4 * q))).map fun l => words (ys.drop 2) q ++ l := by
 have e : (ys.getD 1 0).toNat = q := by omega
 rw [segP, if_neg h, if_neg (by omega), e, segP_fuel (g := (ys.drop (2 + 4 * q)).length + 1) (by rw [List.length_drop]; omega) (by omega)]
theorem seg_spec (v : Value) (xs : List Int) (M : Mem) (hv : Sl M v 1 (ints .u8 xs)) (hx : xs.length ≤ 100000) (hb : ∀ x ∈ xs, 0 ≤ x ∧ x ≤ 255) : CallA Try.prog 140 [v] M fun r M' => Fr M M' [] ∧ ∃ w d, r = .tuple ⟨[w, .bool d]⟩ ∧
  ((∃ l, pathP xs = some l ∧ d = true ∧ Sl M' w 1 (ints .u32 l) ∧ ∀ b ∈ blkOf w, M.length ≤ b) ∨ (pathP xs = none ∧ d = false ∧ ∃ l, Sl M' w 1 (ints .u32 l) ∧ ∀ b ∈ blkOf w, M.length ≤ b)) := by
 (refine CallA.of_body Try.func140 rfl (by rfl) ?_; simp only [Try.ntmps140, List.length_cons, List.length_nil, List.replicate, List.cons_append, List.nil_append, Nat.reduceSub, Nat.reduceAdd])
 (repeat (first | refine st ?_ | refine σa ?_ | (refine σb ?_; simp (disch := omega) only [push_cast, ↓reduceIte, reduceCtorEq, ν1, ν2, ν3, ν4, ν5, ζ1, ζ2, ζ3, ζ4, ζ5])))
 refine AW.loopF [0, 2, 3, 4, 5, 6, 7, 8, 9, 10, 11, 12, 13, 14, 15, 16, 17, 18, 19, 20, 21, 22, 23, 24, 25, 26, 27, 28, 29, 30, 31, 32, 33, 34, 35, 36, 37, 38, 39, 40, 41, 42, 43] (fun m g M' => ∃ w, g 0 = w ∧ ∃ o, g 4 = o ∧ ∃ ys, ys.length = m ∧ Sl M w 1 (ints .u8 ys) ∧ ys.length ≤ xs.length ∧ (∀ x ∈ ys, 0 ≤ x ∧ x ≤ 255) ∧ (∀ b ∈ blkOf w, b ∈ blkOf v) ∧ Fr M M' [] ∧ ∃ out, New M M' o 1 (ints .u32 out) ∧ out.length ≤ xs.length - ys.length ∧ segP (xs.length + 1) xs = (segP (ys.length + 1) ys).map fun l => out ++ l) xs.length ?_ ?_
 ·refine ⟨v, rfl, .slice none 0 0, rfl, xs, rfl, hv, Nat.le_refl _, hb, fun b h => h, Fr.refl M, [], New.nil M (by omega), Nat.zero_le _, ?_⟩
  cases segP (xs.length + 1) xs <;> rfl
 rintro m g M1 ⟨w, h0, o, h4, ys, rfl, hw, hyl, hyb, hblk, hF, out, hN, hol, hP⟩
 simp (disch := omega) only [push_cast, ↓reduceIte, reduceCtorEq, Nat.reduceAdd, Nat.reduceMul, Nat.reduceLeDiff, Nat.reduceLT, Nat.reduceSub, Int.reduceNe, Int.reduceEq, Int.reduceLE, Int.reduceLT, Int.reduceToNat, h0, h4]
 have hw1 := hw.keep hF (by simp)
 have hs := hw1.isSl
 have hn := hw1.lnI
 (repeat (first | refine st ?_ | refine σa ?_ | (refine σb ?_; simp (disch := omega) only [push_cast, ↓reduceIte, reduceCtorEq, ν1, ν2, ν3, ν4, ν5, ζ1, ζ2, ζ3, ζ4, ζ5, hs, hn])))
 ((first | refine AL.gu rfl (fun hp => ?_) (fun hp => ?_) | refine AW.condS rfl rfl (fun hp => ?_) (fun hp => ?_)) <;> (try (have hp' := hp; simp only [Bool.not_eq_true', Bool.not_eq_false', Bool.not_true, Bool.not_false, decide_eq_true_eq, decide_eq_false_iff_not, Classical.not_not, Int.not_lt, Int.not_le, gt_iff_lt, ge_iff_le, beq_iff_eq] at hp')))
 ·have hld := fun i h1 => hw1.ldN (P := Try.prog) (ty := 5) (i := i) (by kernel_rfl) h1
  have hl0 := fun h1 => hw1.ld0 (P := Try.prog) (ty := 5) (by kernel_rfl) h1
  have hne : ys ≠ [] := by rintro rfl; exact absurd hp' (by simp)
  have bad : ∀ b : Bool, b = false → (segP (ys.length + 1) ys = none) → ∃ w d, (Value.tuple ⟨[.slice none 0 0, .bool b]⟩) = .tuple ⟨[w, .bool d]⟩ ∧
    ((∃ l, pathP xs = some l ∧ d = true ∧ Sl M1 w 1 (ints .u32 l) ∧ ∀ b ∈ blkOf w, M.length ≤ b) ∨ (pathP xs = none ∧ d = false ∧ ∃ l, Sl M1 w 1 (ints .u32 l) ∧ ∀ b ∈ blkOf w, M.length ≤ b)) :=
   fun b hb hn => ⟨_, _, rfl, .inr ⟨pathP_none hP hn, hb, [], Sl.nil M1 (by omega), fun b hb => by cases hb⟩⟩
  by_cases c1 : ys.length < 2
  ·have d1 : decide ((ys.length : Int) < 2) = true := decide_eq_true (by omega)
   (repeat (first | refine st ?_ | refine σa ?_ | (refine σb ?_; simp (disch := omega) only [push_cast, ↓reduceIte, reduceCtorEq, ν1, ν2, ν3, ν4, ν5, ζ1, ζ2, ζ3, ζ4, ζ5, hs, hn, d1])))
   ((first | refine retA.ret (by rfl) ?_ | refine retA.normal (by rfl) ?_); simp (disch := omega) only [push_cast, ↓reduceIte, reduceCtorEq, Nat.reduceAdd, Nat.reduceMul, Nat.reduceLeDiff, Nat.reduceLT, Nat.reduceSub, Int.reduceNe, Int.reduceEq, Int.reduceLE, Int.reduceLT, Int.reduceToNat])
   exact ⟨hF, bad false rfl (segP_bad hne (.inl c1))⟩
  have d1 : decide ((ys.length : Int) < 2) = false := decide_eq_false (by omega)
  by_cases c2 : ys.getD 0 0 = 2
  ·have d2 : decide ((2 : Int) = 2) = true := rfl
   have b1 := getD_byte hyb 1
   have b11 := b1.1
   have b12 := b1.2
   obtain ⟨q, hq⟩ : ∃ q : Nat, ys.getD 1 0 = q := ⟨(ys.getD 1 0).toNat, by omega⟩
   by_cases c3 : q = 0
   ·have d3 : decide ((q : Int) = 0) = true := decide_eq_true (by omega)
    (repeat (first | refine st ?_ | refine σa ?_ | (refine σb ?_; simp (disch := omega) only [push_cast, ↓reduceIte, reduceCtorEq, ν1, ν2, ν3, ν4, ν5, ζ1, ζ2, ζ3, ζ4, ζ5, hs, hn, d1, hld, hl0, c2, hq, d3, Bool.not_true, Bool.not_false])))
    ((first | refine retA.ret (by rfl) ?_ | refine retA.normal (by rfl) ?_); simp (disch := omega) only [push_cast, ↓reduceIte, reduceCtorEq, Nat.reduceAdd, Nat.reduceMul, Nat.reduceLeDiff, Nat.reduceLT, Nat.reduceSub, Int.reduceNe, Int.reduceEq, Int.reduceLE, Int.reduceLT, Int.reduceToNat])
    exact ⟨hF, bad false rfl (segP_bad hne (.inr (.inr (.inl (by omega)))))⟩
   ·have d3 : decide ((q : Int) = 0) = false := decide_eq_false (by omega)
    obtain ⟨w1, hw1', p1⟩ := hw.pcFrom 2 (by omega)
    have p1k := p1.keep hF (by simp)
    have hw1'' : aslice w 1 (some (.int .i64 2)) none none = some w1 := hw1'
    have hsz := hw1.sz
    have hs1 := p1.sl.isSl
    have hn1 := p1.sl.lnI
    obtain ⟨m1, hm1⟩ : ∃ m1, ys.length = m1 + 2 := ⟨ys.length - 2, by omega⟩
    have hdl : (ys.drop 2).length = m1 := by rw [List.length_drop]; omega
    rw [hdl] at hn1
    by_cases c4 : m1 < 4 * q
    ·have d4 : decide ((m1 : Int) < 4 * (q : Int)) = true := decide_eq_true (by omega)
     (repeat (first | refine st ?_ | refine σa ?_ | (refine σb ?_; simp (disch := omega) only [push_cast, ↓reduceIte, reduceCtorEq, ν1, ν2, ν3, ν4, ν5, ζ1, ζ2, ζ3, ζ4, ζ5, hs, hn, d1, hld, hl0, c2, hq, d3, w_i64, hw1'', hsz, hs1, hn1, d4, Bool.not_true, Bool.not_false, Option.map_none, Option.map_some])))
     ((first | refine retA.ret (by rfl) ?_ | refine retA.normal (by rfl) ?_); simp (disch := omega) only [push_cast, ↓reduceIte, reduceCtorEq, Nat.reduceAdd, Nat.reduceMul, Nat.reduceLeDiff, Nat.reduceLT, Nat.reduceSub, Int.reduceNe, Int.reduceEq, Int.reduceLE, Int.reduceLT, Int.reduceToNat])
     exact ⟨hF, bad false rfl (segP_bad hne (.inr (.inr (.inr (by omega)))))⟩
    ·have d4 : decide ((m1 : Int) < 4 * (q : Int)) = false := decide_eq_false (by omega)
     obtain ⟨w2, hw2, p2⟩ := p1.sl.pcTo (4 * q) (by omega)
     obtain ⟨w3, hw3, p3⟩ := p1.sl.pcFrom (4 * q) (by omega)
     have hw2' : aslice w1 1 none (some (.int .i64 (4 * (q : Int)))) none = some w2 := hw2
     have hw3' : aslice w1 1 (some (.int .i64 (4 * (q : Int)))) none none = some w3 := hw3
     have hsz1 := p1k.sl.sz
     (repeat (first | refine st ?_ | refine σa ?_ | (refine σb ?_; simp (disch := omega) only [push_cast, ↓reduceIte, reduceCtorEq, ν1, ν2, ν3, ν4, ν5, ζ1, ζ2, ζ3, ζ4, ζ5, hs, hn, d1, hld, hl0, c2, hq, d3, w_i64, hw1'', hsz, hs1, hn1, d4, hw2', hsz1, Bool.not_true, Bool.not_false, Option.map_none, Option.map_some])))
     have hl4 : ((ys.drop 2).take (4 * q)).length = 4 * q := by rw [List.length_take]; omega
     refine (list_spec w2 ((ys.drop 2).take (4 * q)) M1 (p2.sl.keep hF (by simp)) (by omega) (by omega) (fun x hx => hyb x (List.mem_of_mem_drop (List.mem_of_mem_take hx)))).mono ?_
     rintro r M2 ⟨hN2, hF2⟩
     rw [hl4, show 4 * q / 4 = q by omega, words_take] at hN2
     (repeat (first | refine st ?_ | refine σa ?_ | (refine σb ?_; simp (disch := omega) only [push_cast, ↓reduceIte, reduceCtorEq, ν1, ν2, ν3, ν4, ν5, ζ1, ζ2, ζ3, ζ4, ζ5])))
     have hN' := hN.keep hF2 (by simp)
     have hwl := words_length (ys.drop 2) q
     refine appK.ints (P := Try.prog) (e := 30) (bt := 4) (z := .int .u32 0) (by kernel_rfl) (by kernel_rfl) (by kernel_rfl) (by kernel_rfl) (by decide) hN'.1 hN2.sl (by omega) ?_
     intro v' M3 hN3 hF3
     have hF13 : Fr M M3 [] := (hF.tr hF2).new hN' hF3
     have hdd : (ys.drop 2).drop (4 * q) = ys.drop (2 + 4 * q) := by rw [List.drop_drop]
     have p3k : Sl M w3 1 (ints .u8 (ys.drop (2 + 4 * q))) := by rw [← hdd]; exact p3.sl
     have hsz3 : szOk M3 w1 1 := (p1.keep hF13 (by simp)).sl.sz
     (repeat (first | refine st ?_ | refine σa ?_ | (refine σb ?_; simp (disch := omega) only [push_cast, ↓reduceIte, reduceCtorEq, ν1, ν2, ν3, ν4, ν5, ζ1, ζ2, ζ3, ζ4, ζ5, hw3', hsz3, Option.map_none, Option.map_some])))
     have hylen : (ys.drop (2 + 4 * q)).length = ys.length - (2 + 4 * q) := List.length_drop
     refine ⟨rfl, ys.length - (2 + 4 * q), by omega, ys.drop (2 + 4 * q), hylen, p3k, by omega, fun x hx => hyb x (List.mem_of_mem_drop hx), fun b hb => hblk b (p1.blk b (p3.blk b hb)), hF13, out ++ words (ys.drop 2) q, hN3.after (hF.tr hF2), by rw [List.length_append]; omega, ?_⟩
     rw [hP, segP_good hne (by omega) c2 hq (by omega) (by omega)]
     cases segP ((ys.drop (2 + 4 * q)).length + 1) (ys.drop (2 + 4 * q)) <;> simp
  ·have d2 : decide (ys.getD 0 0 = 2) = false := decide_eq_false c2
   (repeat (first | refine st ?_ | refine σa ?_ | (refine σb ?_; simp (disch := omega) only [push_cast, ↓reduceIte, reduceCtorEq, ν1, ν2, ν3, ν4, ν5, ζ1, ζ2, ζ3, ζ4, ζ5, hs, hn, d1, hld, hl0, d2, Bool.not_true, Bool.not_false])))
   ((first | refine retA.ret (by rfl) ?_ | refine retA.normal (by rfl) ?_); simp (disch := omega) only [push_cast, ↓reduceIte, reduceCtorEq, Nat.reduceAdd, Nat.reduceMul, Nat.reduceLeDiff, Nat.reduceLT, Nat.reduceSub, Int.reduceNe, Int.reduceEq, Int.reduceLE, Int.reduceLT, Int.reduceToNat])
   exact ⟨hF, bad false rfl (segP_bad hne (.inr (.inl c2)))⟩
 ·have hys : ys = [] := List.eq_nil_of_length_eq_zero (by omega)
  subst hys
  have hso := hN.sl.isSl
  have hno := hN.sl.lnI
  have hP' : segP (xs.length + 1) xs = some out := by rw [hP]; simp [segP]
  by_cases c1 : out.length ≤ 255
  ·have d1 : decide ((out.length : Int) ≤ 255) = true := decide_eq_true (by omega)
   (repeat (first | refine st ?_ | refine σa ?_ | (refine σb ?_; simp (disch := omega) only [push_cast, ↓reduceIte, reduceCtorEq, ν1, ν2, ν3, ν4, ν5, ζ1, ζ2, ζ3, ζ4, ζ5, hso, hno, d1])))
   refine (has_spec o out 0 M1 hN.sl (by omega)).mono ?_
   rintro r M2 ⟨rfl, rfl⟩
   (repeat (first | refine st ?_ | refine σa ?_ | (refine σb ?_; simp (disch := omega) only [push_cast, ↓reduceIte, reduceCtorEq, ν1, ν2, ν3, ν4, ν5, ζ1, ζ2, ζ3, ζ4, ζ5])))
   ((first | refine retA.ret (by rfl) ?_ | refine retA.normal (by rfl) ?_); simp (disch := omega) only [push_cast, ↓reduceIte, reduceCtorEq, Nat.reduceAdd, Nat.reduceMul, Nat.reduceLeDiff, Nat.reduceLT, Nat.reduceSub, Int.reduceNe, Int.reduceEq, Int.reduceLE, Int.reduceLT, Int.reduceToNat])
   refine ⟨hF, ?_⟩
   by_cases c2 : (0 : Int) ∈ out
   ·exact ⟨_, _, rfl, .inr ⟨by unfold pathP; rw [hP']; simp [c2], by simp [c2], out, hN.sl, hN.blk⟩⟩
   ·exact ⟨_, _, rfl, .inl ⟨out, by unfold pathP; rw [hP']; simp [c1, c2], by simp [c2], hN.sl, hN.blk⟩⟩
  ·have d1 : decide ((out.length : Int) ≤ 255) = false := decide_eq_false (by omega)
   (repeat (first | refine st ?_ | refine σa ?_ | (refine σb ?_; simp (disch := omega) only [push_cast, ↓reduceIte, reduceCtorEq, ν1, ν2, ν3, ν4, ν5, ζ1, ζ2, ζ3, ζ4, ζ5, hso, hno, d1])))
   ((first | refine retA.ret (by rfl) ?_ | refine retA.normal (by rfl) ?_); simp (disch := omega) only [push_cast, ↓reduceIte, reduceCtorEq, Nat.reduceAdd, Nat.reduceMul, Nat.reduceLeDiff, Nat.reduceLT, Nat.reduceSub, Int.reduceNe, Int.reduceEq, Int.reduceLE, Int.reduceLT, Int.reduceToNat])
   exact ⟨hF, _, _, rfl, .inr ⟨by unfold pathP; rw [hP']; simp [c1], rfl, out, hN.sl, hN.blk⟩⟩
end Go.Proofs.Ytbdejnnbpdgjlaa.Ax
namespace Go.Proofs.Ytbdejnnbpdgjlaa.Ax
open Go Go.RowKit
set_option linter.unusedVariables false
set_option linter.unusedSimpArgs false
set_option maxRecDepth 100000
set_option maxHeartbeats 20000000
def insU (x : Int) : List Int → List Int
 | [] => [x]
 | y :: l => if x < y then x :: y :: l else if x = y then y :: l else y :: insU x l
def uniq (xs : List Int) : List Int := xs.foldl (fun l x => insU x l) []
theorem insU_mem {x z : Int} : ∀ {l : List Int}, z ∈ insU x l ↔ z = x ∨ z ∈ l
 | [] => by simp [insU]
 | y :: l => by
  unfold insU
  split
  ·simp
  ·split
   ·rename_i h; subst h; simp
   ·rw [List.mem_cons, insU_mem (l := l), List.mem_cons]
    constructor
    ·rintro (h | h | h)
     ·exact .inr (.inl h)
     ·exact .inl h
     ·exact .inr (.inr h)
    ·rintro (h | h | h)
     ·exact .inr (.inl h)
     ·exact .inl h
     ·exact .inr (.inr h)
theorem insU_rise {x : Int} : ∀ {l : List Int}, l.Pairwise (· < ·) → (insU x l).Pairwise (· < ·)
 | [], _ => by simp [insU]
 | y :: l, h => by
  unfold insU
  obtain ⟨h1, h2⟩ := List.pairwise_cons.1 h
  split
  ·rename_i hx
   refine List.pairwise_cons.2 ⟨fun z hz => ?_, h⟩
   rcases List.mem_cons.1 hz with rfl | hz
   ·exact hx
   ·have := h1 z hz; omega
  ·split
   ·exact h
   ·refine List.pairwise_cons.2 ⟨fun z hz => ?_, insU_rise h2⟩
    rcases insU_mem.1 hz with rfl | hz
    ·omega
    ·exact h1 z hz
theorem uniq_fold : ∀ (xs l : List Int), l.Pairwise (· < ·) → (xs.foldl (fun l x => insU x l) l).Pairwise (· < ·) ∧ ∀ z, z ∈ xs.foldl (fun l x => insU x l) l ↔ z ∈ l ∨ z ∈ xs
 | [], l, h => ⟨h, by simp⟩
 | x :: xs, l, h => by
  obtain ⟨h1, h2⟩ := uniq_fold xs (insU x l) (insU_rise h)
  refine ⟨h1, fun z => ?_⟩
  rw [List.foldl_cons, h2, insU_mem, List.mem_cons]
  constructor
  ·rintro ((h | h) | h)
   ·exact .inr (.inl h)
   ·exact .inl h
   ·exact .inr (.inr h)
  ·rintro (h | h | h)
   ·exact .inl (.inr h)
   ·exact .inl (.inl h)
   ·exact .inr h
theorem uniq_rise (xs : List Int) : (uniq xs).Pairwise (· < ·) := (uniq_fold xs [] .nil).1
theorem uniq_mem {xs : List Int} {z : Int} : z ∈ uniq xs ↔ z ∈ xs := by unfold uniq; rw [(uniq_fold xs [] .nil).2]; simp
theorem rise_ext : ∀ {l m : List Int}, l.Pairwise (· < ·) → m.Pairwise (· < ·) → (∀ z, z ∈ l ↔ z ∈ m) → l = m
 | [], [], _, _, _ => rfl
 | [], y :: m, _, _, h => by have := (h y).2 (by simp); simp at this
 | x :: l, [], _, _, h => by have := (h x).1 (by simp); simp at this
 | x :: l, y :: m, h1, h2, h => by
  obtain ⟨a1, a2⟩ := List.pairwise_cons.1 h1
  obtain ⟨b1, b2⟩ := List.pairwise_cons.1 h2
  have hxy : x = y := by
   have e1 := List.mem_cons.1 ((h x).1 (by simp))
   have e2 := List.mem_cons.1 ((h y).2 (by simp))
   rcases e1 with e1 | e1
   ·exact e1
   ·rcases e2 with e2 | e2
    ·exact e2.symm
    ·have := b1 x e1; have := a1 y e2; omega
  subst hxy
  congr 1
  refine rise_ext a2 b2 fun z => ⟨fun hz => ?_, fun hz => ?_⟩
  ·rcases List.mem_cons.1 ((h z).1 (List.mem_cons_of_mem _ hz)) with e | e
   ·have := a1 z hz; omega
   ·exact e
  ·rcases List.mem_cons.1 ((h z).2 (List.mem_cons_of_mem _ hz)) with e | e
   ·have := b1 z hz; omega
   ·exact e
theorem uniq_eq {l xs : List Int} (h : l.Pairwise (· < ·)) (hm : ∀ z, z ∈ l ↔ z ∈ xs) : l = uniq xs := rise_ext h (uniq_rise xs) fun z => (hm z).trans uniq_mem.symm
theorem ddN_uniq {xs ys : List Int} (hp : ys.Perm xs) (hs : SortOn 0 ys.length ys) : ddN ys ys.length = uniq xs := by
 refine uniq_eq (ddN_rise hs) fun z => ?_
 rw [ddN_mem]
 constructor
 ·rintro ⟨q, h1, rfl⟩; exact hp.subset (getD_mem h1)
 ·intro h
  obtain ⟨q, hq, e⟩ := List.mem_iff_getElem.1 (hp.symm.subset h)
  exact ⟨q, hq, (getD_lt hq).trans e⟩
def takeP (a : AV) (k : Int) (v : List Int) : AV × Int :=
 if lenP k v.length = false then (a, 5)
 else if k = 1 then (if v.getD 0 0 > 2 then (a, 6) else ({ a with origin := v.getD 0 0 }, 0))
 else if k = 2 then (match pathP v with
  | none => (a, 11)
  | some l => ({ a with path := l }, 0))
 else if k = 3 then (if wordAt v 0 = 0 ∨ wordAt v 0 ≥ 3758096384 then (a, 8) else ({ a with hop := wordAt v 0 }, 0))
 else if k = 4 then ({ a with med := wordAt v 0, hasMed := true }, 0)
 else if k = 5 then ({ a with pref := wordAt v 0, hasPref := true }, 0)
 else if k = 8 then (if (uniq (words v (v.length / 4))).length > 255 then (a, 9) else ({ a with comms := uniq (words v (v.length / 4)) }, 0))
 else (a, 0)
def AVbox (M : Mem) (s lo : Nat) (a : AV) : Prop := ∃ p c, At M s (.box [.int .i64 a.origin, p, .int .u32 a.hop, .int .u32 a.med, .int .u32 a.pref, .bool a.hasMed, .bool a.hasPref, c]) ∧ Sl M p 1 (ints .u32 a.path) ∧ Sl M c 1 (ints .u32 a.comms) ∧ (∀ b ∈ blkOf p, lo ≤ b) ∧ ∀ b ∈ blkOf c, lo ≤ b
theorem Sl.boxSet {M : Mem} {v : Value} {k : Nat} {cs : List Value} {s : Nat} {B : Blk} (h : Sl M v k cs) (hs : s ∉ blkOf v) : Sl (M.set s B) v k cs := h.keep (Fr.set M s B) (by intro b hb hx; simp at hx; subst hx; exact hs hb)
end Go.Proofs.Ytbdejnnbpdgjlaa.Ax
