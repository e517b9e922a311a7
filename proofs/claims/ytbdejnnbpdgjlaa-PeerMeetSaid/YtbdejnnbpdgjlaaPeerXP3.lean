/- Contracts of functions over the abstract machine. No conditions: lemmas alone. -/
import Derived.Test.YtbdejnnbpdgjlaaPeerXLibD
import Derived.Test.YtbdejnnbpdgjlaaPeerXP0
import Derived.Test.YtbdejnnbpdgjlaaPeerXP2
namespace Go.Proofs.Ytbdejnnbpdgjlaa.Ax
open Go Go.RowKit
open Nat renaming reduceAdd → ν1, reduceMul → ν2, reduceLeDiff → ν3, reduceLT → ν4, reduceSub → ν5
open Int renaming reduceNe → ζ1, reduceEq → ζ2, reduceLE → ζ3, reduceLT → ζ4, reduceToNat → ζ5
set_option linter.unusedVariables false
set_option linter.unusedSimpArgs false
set_option maxRecDepth 100000
set_option maxHeartbeats 20000000
attribute [local irreducible] thenA blockA scopeA retA AL AW AD ADL AH clrK CallA apure aload bload appK ptrK fnK ares szOk planOk okOps
theorem d121_At2 {g n : Prop} (k : n) (h : n → g := by first | exact AW.dr (id := 11) (by rfl) [0, 1, 2, 3, 4, 5, 6, 7, 8, 9, 10, 11, 12, 13, 14, 15, 16, 17, 18, 19, 20, 21] (by kernel_rfl) (by kernel_rfl)) : g := h k
structure Pc (M : Mem) (v w : Value) (ys : List Int) : Prop where
 sl : Sl M w 1 (ints .u8 ys)
 blk : ∀ b ∈ blkOf w, b ∈ blkOf v
theorem Pc.keep {M M' : Mem} {v w : Value} {ys : List Int} {X : List Nat} (h : Pc M v w ys) (f : Fr M M' X) (hx : ∀ b ∈ blkOf v, b ∉ X) : Pc M' v w ys := ⟨h.sl.keep f (fun b hb => hx b (h.blk b hb)), h.blk⟩
theorem Sl.pcFrom {M : Mem} {v : Value} {xs : List Int} (h : Sl M v 1 (ints .u8 xs)) (k : Nat) (hk : k ≤ xs.length) : ∃ w, aslice v 1 (some (.int .i64 (k : Int))) none none = some w ∧ Pc M v w (xs.drop k) := by
 obtain ⟨w, h1, h2, h3⟩ := h.from k (by rw [h.lnI]; exact hk)
 exact ⟨w, h1, by rw [Nat.mul_one, ints_drop] at h2; exact h2, h3⟩
theorem Sl.pcTo {M : Mem} {v : Value} {xs : List Int} (h : Sl M v 1 (ints .u8 xs)) (k : Nat) (hk : k ≤ xs.length) : ∃ w, aslice v 1 none (some (.int .i64 (k : Int))) none = some w ∧ Pc M v w (xs.take k) := by
 obtain ⟨w, h1, h2, h3⟩ := h.to k (by rw [h.lnI]; exact hk)
 exact ⟨w, h1, by rw [Nat.mul_one, ints_take] at h2; exact h2, h3⟩
theorem Sl.pcMid {M : Mem} {v : Value} {xs : List Int} (h : Sl M v 1 (ints .u8 xs)) (l r : Nat) (hl : l ≤ r) (hr : r ≤ xs.length) : ∃ w, aslice v 1 (some (.int .i64 (l : Int))) (some (.int .i64 (r : Int))) none = some w ∧ Pc M v w ((xs.drop l).take (r - l)) := by
 obtain ⟨w, h1, h2, h3⟩ := h.mid l r hl (by rw [h.lnI]; exact hr)
 exact ⟨w, h1, by rw [Nat.mul_one, Nat.mul_one, ints_drop, ints_take] at h2; exact h2, h3⟩
theorem cut_spec (v : Value) (xs : List Int) (M : Mem) (hv : Sl M v 1 (ints .u8 xs)) (h0 : xs ≠ []) (hx : xs.length ≤ 100000) (hb : ∀ x ∈ xs, 0 ≤ x ∧ x ≤ 255) : CallA Try.prog 121 [v] M fun r M' => M' = M ∧
  ((cutP xs ∧ ∃ w1 w2, r = .tuple ⟨[.int .u8 (xs.getD 0 0), .int .u8 (xs.getD 1 0), w1, w2, .bool true]⟩ ∧ Pc M v w1 ((xs.drop (headP xs)).take (sizeP xs)) ∧ Pc M v w2 (xs.drop (headP xs + sizeP xs))) ∨
   (¬ cutP xs ∧ r = .tuple ⟨[.int .u8 0, .int .u8 0, .slice none 0 0, .slice none 0 0, .bool false]⟩)) := by
 have hs := hv.isSl
 have hn := hv.lnI
 have hld := fun i h1 => hv.ldN (P := Try.prog) (ty := 5) (i := i) (by kernel_rfl) h1
 have hl0 := fun h1 => hv.ld0 (P := Try.prog) (ty := 5) (by kernel_rfl) h1
 have hp : 0 < xs.length := List.length_pos_iff.2 h0
 have ha := and16 (getD_byte hb 0)
 have hsz := hv.sz
 have hbl := hv.blks
 have b0 := getD_byte hb 0
 have b2 := getD_byte hb 2
 have b3 := getD_byte hb 3
 have s8 : (2 : Int) ^ min 8 IntKind.i64.bits = 256 := by decide
 obtain ⟨q, hq⟩ : ∃ q, xs.getD 0 0 / 16 % 2 * 16 = q := ⟨_, rfl⟩
 by_cases h16 : xs.getD 0 0 / 16 % 2 = 1
 ·have e1 : headP xs = 4 := by unfold headP; rw [if_pos h16]
  have e2 : sizeP xs = (xs.getD 2 0 * 256 + xs.getD 3 0).toNat := by unfold sizeP; rw [if_pos h16]
  have hq1 : decide (xs.getD 0 0 / 16 % 2 * 16 = 0) = false := decide_eq_false (by omega)
  have or1 := or64 b3 b2
  have b31 := b3.1
  have b32 := b3.2
  have b21 := b2.1
  have b22 := b2.2
  obtain ⟨z, hz⟩ : ∃ z : Nat, xs.getD 2 0 * 256 + xs.getD 3 0 = z := ⟨(xs.getD 2 0 * 256 + xs.getD 3 0).toNat, by omega⟩
  have e3 : sizeP xs = z := by omega
  have e43 : ((4 : Int) - 1).toNat = 3 := rfl
  by_cases h4 : 4 ≤ xs.length
  ·have hlt : decide ((xs.length : Int) < 4) = false := decide_eq_false (by omega)
   by_cases hc : 4 + z ≤ xs.length
   ·obtain ⟨w1, hw1, p1⟩ := hv.pcMid 4 (4 + z) (by omega) hc
    obtain ⟨w2, hw2, p2⟩ := hv.pcFrom (4 + z) hc
    have hw1' : aslice v 1 (some (.int .i64 4)) (some (.int .i64 (4 + (z : Int)))) none = some w1 := hw1
    have hw2' : aslice v 1 (some (.int .i64 (4 + (z : Int)))) none none = some w2 := hw2
    have hlt2 : decide ((xs.length : Int) - 4 < z) = false := decide_eq_false (by omega)
    rw [Nat.add_sub_cancel_left] at p1
    (refine CallA.of_body Try.func121 rfl (by rfl) ?_; simp only [Try.ntmps121, List.length_cons, List.length_nil, List.replicate, List.cons_append, List.nil_append, Nat.reduceSub, Nat.reduceAdd])
    (repeat (first | refine st ?_ | refine σa ?_ | refine d121_At2 ?_ | ((first | refine σb ?_ | refine σc ?_); simp (disch := omega) only [push_cast, ↓reduceIte, reduceCtorEq, ν1, ν2, ν3, ν4, ν5, ζ1, ζ2, ζ3, ζ4, ζ5, hs, hn, hld, hl0, ha, hq1, hlt, hlt2, w_i64, s8, or1, e43, hz, hw1', hw2', hsz, Bool.not_false, Bool.not_true, Option.map_some, Option.map_none])))
    ((first | refine retA.ret (by rfl) ?_ | refine retA.normal (by rfl) ?_); simp (disch := omega) only [push_cast, ↓reduceIte, reduceCtorEq, Nat.reduceAdd, Nat.reduceMul, Nat.reduceLeDiff, Nat.reduceLT, Nat.reduceSub, Int.reduceNe, Int.reduceEq, Int.reduceLE, Int.reduceLT, Int.reduceToNat])
    refine .inl ⟨⟨by omega, by omega⟩, w1, w2, rfl, ?_, ?_⟩
    ·rw [e1, e3]; exact p1
    ·rw [e1, e3]; exact p2
   ·have hlt2 : decide ((xs.length : Int) - 4 < z) = true := decide_eq_true (by omega)
    (refine CallA.of_body Try.func121 rfl (by rfl) ?_; simp only [Try.ntmps121, List.length_cons, List.length_nil, List.replicate, List.cons_append, List.nil_append, Nat.reduceSub, Nat.reduceAdd])
    (repeat (first | refine st ?_ | refine σa ?_ | refine d121_At2 ?_ | ((first | refine σb ?_ | refine σc ?_); simp (disch := omega) only [push_cast, ↓reduceIte, reduceCtorEq, ν1, ν2, ν3, ν4, ν5, ζ1, ζ2, ζ3, ζ4, ζ5, hs, hn, hld, hl0, ha, hq1, hlt, hlt2, w_i64, s8, or1, e43, hz, hsz, Bool.not_false, Bool.not_true, Option.map_some, Option.map_none])))
    ((first | refine retA.ret (by rfl) ?_ | refine retA.normal (by rfl) ?_); simp (disch := omega) only [push_cast, ↓reduceIte, reduceCtorEq, Nat.reduceAdd, Nat.reduceMul, Nat.reduceLeDiff, Nat.reduceLT, Nat.reduceSub, Int.reduceNe, Int.reduceEq, Int.reduceLE, Int.reduceLT, Int.reduceToNat])
    exact .inr fun hc' => hc (by have := hc'.2; omega)
  ·have hlt : decide ((xs.length : Int) < 4) = true := decide_eq_true (by omega)
   (refine CallA.of_body Try.func121 rfl (by rfl) ?_; simp only [Try.ntmps121, List.length_cons, List.length_nil, List.replicate, List.cons_append, List.nil_append, Nat.reduceSub, Nat.reduceAdd])
   (repeat (first | refine st ?_ | refine σa ?_ | refine d121_At2 ?_ | ((first | refine σb ?_ | refine σc ?_); simp (disch := omega) only [push_cast, ↓reduceIte, reduceCtorEq, ν1, ν2, ν3, ν4, ν5, ζ1, ζ2, ζ3, ζ4, ζ5, hs, hn, hld, hl0, ha, hq1, hlt, w_i64, Bool.not_false, Bool.not_true])))
   ((first | refine retA.ret (by rfl) ?_ | refine retA.normal (by rfl) ?_); simp (disch := omega) only [push_cast, ↓reduceIte, reduceCtorEq, Nat.reduceAdd, Nat.reduceMul, Nat.reduceLeDiff, Nat.reduceLT, Nat.reduceSub, Int.reduceNe, Int.reduceEq, Int.reduceLE, Int.reduceLT, Int.reduceToNat])
   exact .inr fun hc' => h4 (by have := hc'.1; omega)
 ·have e1 : headP xs = 3 := by unfold headP; rw [if_neg h16]
  have e2 : sizeP xs = (xs.getD 2 0).toNat := by unfold sizeP; rw [if_neg h16]
  have hq1 : decide (xs.getD 0 0 / 16 % 2 * 16 = 0) = true := decide_eq_true (by omega)
  have b21 := b2.1
  have b22 := b2.2
  obtain ⟨z, hz⟩ : ∃ z : Nat, xs.getD 2 0 = z := ⟨(xs.getD 2 0).toNat, by omega⟩
  have e3 : sizeP xs = z := by omega
  have e32 : ((3 : Int) - 1).toNat = 2 := rfl
  by_cases h4 : 3 ≤ xs.length
  ·have hlt : decide ((xs.length : Int) < 3) = false := decide_eq_false (by omega)
   by_cases hc : 3 + z ≤ xs.length
   ·obtain ⟨w1, hw1, p1⟩ := hv.pcMid 3 (3 + z) (by omega) hc
    obtain ⟨w2, hw2, p2⟩ := hv.pcFrom (3 + z) hc
    have hw1' : aslice v 1 (some (.int .i64 3)) (some (.int .i64 (3 + (z : Int)))) none = some w1 := hw1
    have hw2' : aslice v 1 (some (.int .i64 (3 + (z : Int)))) none none = some w2 := hw2
    have hlt2 : decide ((xs.length : Int) - 3 < z) = false := decide_eq_false (by omega)
    rw [Nat.add_sub_cancel_left] at p1
    (refine CallA.of_body Try.func121 rfl (by rfl) ?_; simp only [Try.ntmps121, List.length_cons, List.length_nil, List.replicate, List.cons_append, List.nil_append, Nat.reduceSub, Nat.reduceAdd])
    (repeat (first | refine st ?_ | refine σa ?_ | refine d121_At2 ?_ | ((first | refine σb ?_ | refine σc ?_); simp (disch := omega) only [push_cast, ↓reduceIte, reduceCtorEq, ν1, ν2, ν3, ν4, ν5, ζ1, ζ2, ζ3, ζ4, ζ5, hs, hn, hld, hl0, ha, hq1, hlt, hlt2, w_i64, e32, hz, hw1', hw2', hsz, Bool.not_false, Bool.not_true, Option.map_some, Option.map_none])))
    ((first | refine retA.ret (by rfl) ?_ | refine retA.normal (by rfl) ?_); simp (disch := omega) only [push_cast, ↓reduceIte, reduceCtorEq, Nat.reduceAdd, Nat.reduceMul, Nat.reduceLeDiff, Nat.reduceLT, Nat.reduceSub, Int.reduceNe, Int.reduceEq, Int.reduceLE, Int.reduceLT, Int.reduceToNat])
    refine .inl ⟨⟨by omega, by omega⟩, w1, w2, rfl, ?_, ?_⟩
    ·rw [e1, e3]; exact p1
    ·rw [e1, e3]; exact p2
   ·have hlt2 : decide ((xs.length : Int) - 3 < z) = true := decide_eq_true (by omega)
    (refine CallA.of_body Try.func121 rfl (by rfl) ?_; simp only [Try.ntmps121, List.length_cons, List.length_nil, List.replicate, List.cons_append, List.nil_append, Nat.reduceSub, Nat.reduceAdd])
    (repeat (first | refine st ?_ | refine σa ?_ | refine d121_At2 ?_ | ((first | refine σb ?_ | refine σc ?_); simp (disch := omega) only [push_cast, ↓reduceIte, reduceCtorEq, ν1, ν2, ν3, ν4, ν5, ζ1, ζ2, ζ3, ζ4, ζ5, hs, hn, hld, hl0, ha, hq1, hlt, hlt2, w_i64, e32, hz, hsz, Bool.not_false, Bool.not_true, Option.map_some, Option.map_none])))
    ((first | refine retA.ret (by rfl) ?_ | refine retA.normal (by rfl) ?_); simp (disch := omega) only [push_cast, ↓reduceIte, reduceCtorEq, Nat.reduceAdd, Nat.reduceMul, Nat.reduceLeDiff, Nat.reduceLT, Nat.reduceSub, Int.reduceNe, Int.reduceEq, Int.reduceLE, Int.reduceLT, Int.reduceToNat])
    exact .inr fun hc' => hc (by have := hc'.2; omega)
  ·have hlt : decide ((xs.length : Int) < 3) = true := decide_eq_true (by omega)
   (refine CallA.of_body Try.func121 rfl (by rfl) ?_; simp only [Try.ntmps121, List.length_cons, List.length_nil, List.replicate, List.cons_append, List.nil_append, Nat.reduceSub, Nat.reduceAdd])
   (repeat (first | refine st ?_ | refine σa ?_ | refine d121_At2 ?_ | ((first | refine σb ?_ | refine σc ?_); simp (disch := omega) only [push_cast, ↓reduceIte, reduceCtorEq, ν1, ν2, ν3, ν4, ν5, ζ1, ζ2, ζ3, ζ4, ζ5, hs, hn, hld, hl0, ha, hq1, hlt, w_i64, Bool.not_false, Bool.not_true])))
   ((first | refine retA.ret (by rfl) ?_ | refine retA.normal (by rfl) ?_); simp (disch := omega) only [push_cast, ↓reduceIte, reduceCtorEq, Nat.reduceAdd, Nat.reduceMul, Nat.reduceLeDiff, Nat.reduceLT, Nat.reduceSub, Int.reduceNe, Int.reduceEq, Int.reduceLE, Int.reduceLT, Int.reduceToNat])
   exact .inr fun hc' => h4 (by have := hc'.1; omega)
theorem d133_SoF {g n : Prop} (k : n) (h : n → g := by first | exact AW.dr (id := 3) (by rfl) [0, 1, 2, 3, 4, 5, 6, 7, 8, 9, 10, 11, 12, 13, 14, 15, 16, 17, 18, 19] (by kernel_rfl) (by kernel_rfl) | exact AW.dr (id := 5) (by rfl) [0, 1, 2, 3, 4, 5, 6, 7, 8, 9, 10, 11, 12, 13] (by kernel_rfl) (by kernel_rfl) | exact AW.dr (id := 6) (by rfl) [0, 1, 2, 3, 4, 5, 6, 7, 8, 9, 10, 11, 12, 13, 14, 15, 16, 17, 18, 19, 20, 21, 22, 23] (by kernel_rfl) (by kernel_rfl)) : g := h k
theorem a133_SoF {g n : Prop} (k : n) (h : n → g := by first | exact AH.caN (dst := some 51) rfl (by kernel_rfl)) : g := h k
theorem sift_spec {M : Mem} {b off n c : Nat} {pre post : List Value} {xs : List Int} (h : Rw M b off n c pre post xs) (f lo hi : Nat) (hl : f + hi ≤ n) (hlo : lo ≤ hi) (hn : n ≤ 1000000000) (hh : HeapFrom xs f (lo + 1) hi) :
  CallA Try.prog 133 [.slice (some ⟨b, off, none⟩) n c, .int .i64 lo, .int .i64 hi, .int .i64 f] M fun v M' => ∃ ys, M' = M.set b (.row true 1 (pre ++ ints .u32 ys ++ post)) ∧ PermOn f (f + hi) xs ys ∧ HeapFrom ys f lo hi := by
 have hlen := h.len
 (refine CallA.of_body Try.func133 rfl (by rfl) ?_; simp only [Try.ntmps133, List.length_cons, List.length_nil, List.replicate, List.cons_append, List.nil_append, Nat.reduceSub, Nat.reduceAdd])
 (repeat (first | refine st ?_ | refine σa ?_ | refine d133_SoF ?_ | ((first | refine a133_SoF ?_ | refine σb ?_ | refine σc ?_); simp (disch := omega) only [push_cast, ↓reduceIte, reduceCtorEq, ν1, ν2, ν3, ν4, ν5, ζ1, ζ2, ζ3, ζ4, ζ5])))
 refine AW.loopF [8, 9, 11, 12, 13, 14, 15, 16, 17, 18, 19, 20, 21, 22, 23, 24, 25, 26, 27, 28, 29, 30, 31, 32, 33, 34, 35, 36, 37, 38, 39, 40, 41, 42, 43, 44, 45, 46, 47, 48, 49, 50, 51, 52, 53, 54, 55, 56, 57, 58, 59, 60, 61, 62, 63, 64, 65, 66, 67, 68, 69, 70, 71, 72, 73, 74, 75] (fun m g M' => ∃ (r : Nat) (ys : List Int), g 8 = .int .i64 r ∧ r ≤ hi ∧ r + m = hi ∧ M' = M.set b (.row true 1 (pre ++ ints .u32 ys ++ post)) ∧ PermOn f (f + hi) xs ys ∧ Sift ys f lo hi r) (hi - lo) ?_ ?_
 ·exact ⟨lo, xs, rfl, hlo, by omega, h.same.symm, PermOn.refl _ _ _, Sift.start hh⟩
 rintro m g M1 ⟨r, ys, h8, hr1, hm, rfl, hP, hS⟩
 have hyl := hP.len
 have hR := h.put (ys := ys) (by omega)
 simp (disch := omega) only [push_cast, ↓reduceIte, reduceCtorEq, Nat.reduceAdd, Nat.reduceMul, Nat.reduceLeDiff, Nat.reduceLT, Nat.reduceSub, Int.reduceNe, Int.reduceEq, Int.reduceLE, Int.reduceLT, Int.reduceToNat, h8]
 obtain ⟨k, hk⟩ : ∃ k : Nat, 2 * (r : Int) + 1 = k := ⟨2 * r + 1, by omega⟩
 (repeat (first | refine st ?_ | refine σa ?_ | refine d133_SoF ?_ | ((first | refine a133_SoF ?_ | refine σb ?_ | refine σc ?_); simp (disch := omega) only [push_cast, ↓reduceIte, reduceCtorEq, ν1, ν2, ν3, ν4, ν5, ζ1, ζ2, ζ3, ζ4, ζ5, w_i64, hk])))
 ((first | refine AL.gu rfl (fun hg => ?_) (fun hg => ?_) | refine AW.condS rfl rfl (fun hg => ?_) (fun hg => ?_)) <;> (try (have hg' := hg; simp only [Bool.not_eq_true', Bool.not_eq_false', Bool.not_true, Bool.not_false, decide_eq_true_eq, decide_eq_false_iff_not, Classical.not_not, Int.not_lt, Int.not_le, gt_iff_lt, ge_iff_le, beq_iff_eq] at hg')))
 ·(repeat (first | refine st ?_ | refine σa ?_ | refine d133_SoF ?_ | ((first | refine a133_SoF ?_ | refine σb ?_ | refine σc ?_); simp (disch := omega) only [push_cast, ↓reduceIte, reduceCtorEq, ν1, ν2, ν3, ν4, ν5, ζ1, ζ2, ζ3, ζ4, ζ5])))
  ((first | refine retA.ret (by rfl) ?_ | refine retA.normal (by rfl) ?_); simp (disch := omega) only [push_cast, ↓reduceIte, reduceCtorEq, Nat.reduceAdd, Nat.reduceMul, Nat.reduceLeDiff, Nat.reduceLT, Nat.reduceSub, Int.reduceNe, Int.reduceEq, Int.reduceLE, Int.reduceLT, Int.reduceToNat])
  exact ⟨ys, rfl, hP, hS.done ⟨fun _ => by omega, fun _ => by omega⟩⟩
 ·(repeat (first | refine st ?_ | refine σa ?_ | (refine σb ?_; simp (disch := omega) only [push_cast, ↓reduceIte, reduceCtorEq, ν1, ν2, ν3, ν4, ν5, ζ1, ζ2, ζ3, ζ4, ζ5])))
  have ht1 : ((f : Int) + k).toNat = f + k := by omega
  have ht2 : ((f : Int) + k + 1).toNat = f + k + 1 := by omega
  have l1 := hR.ld (i := f + k) (by omega)
  refine AW.joinL [9, 17, 18, 19, 20, 21, 22, 23, 24, 25, 26, 27, 28, 29, 30, 31, 32, 33, 34, 35, 36, 37, 38] (fun g M' => M' = M.set b (.row true 1 (pre ++ ints .u32 ys ++ post)) ∧ ∃ q : Nat, g 9 = .int .i64 q ∧ (q = 2 * r + 1 ∨ q = 2 * r + 2) ∧ q < hi ∧ (2 * r + 1 < hi → hget ys f (2 * r + 1) ≤ hget ys f q) ∧ (2 * r + 2 < hi → hget ys f (2 * r + 2) ≤ hget ys f q)) ?_ ?_
  ·have ek : k = 2 * r + 1 := by omega
   by_cases hc : k + 1 < hi
   ·have hcd : decide ((k : Int) + 1 < hi) = true := decide_eq_true (by omega)
    have l2 := hR.ld (i := f + k + 1) (by omega)
    have e2 : f + k + 1 = f + (2 * r + 2) := by omega
    (repeat (first | refine st ?_ | refine σa ?_ | refine d133_SoF ?_ | ((first | refine a133_SoF ?_ | refine σb ?_ | refine σc ?_); simp (disch := omega) only [push_cast, ↓reduceIte, reduceCtorEq, ν1, ν2, ν3, ν4, ν5, ζ1, ζ2, ζ3, ζ4, ζ5, hcd, ht1, ht2, l1, l2, hlen, w_i64])))
    (refine (less_spec _ _ _).mono ?_; rintro r M3 ⟨rfl, rfl⟩; try refine ⟨Fr.refl _, ?_⟩)
    (repeat (first | refine st ?_ | refine σa ?_ | refine d133_SoF ?_ | ((first | refine a133_SoF ?_ | refine σb ?_ | refine σc ?_); simp (disch := omega) only [push_cast, ↓reduceIte, reduceCtorEq, ν1, ν2, ν3, ν4, ν5, ζ1, ζ2, ζ3, ζ4, ζ5, hcd, w_i64])))
    ((first | refine AL.gu rfl (fun hq => ?_) (fun hq => ?_) | refine AW.condS rfl rfl (fun hq => ?_) (fun hq => ?_)) <;> (try (have hq' := hq; simp only [Bool.not_eq_true', Bool.not_eq_false', Bool.not_true, Bool.not_false, decide_eq_true_eq, decide_eq_false_iff_not, Classical.not_not, Int.not_lt, Int.not_le, gt_iff_lt, ge_iff_le, beq_iff_eq] at hq')))
    ·(repeat (first | refine st ?_ | refine σa ?_ | refine d133_SoF ?_ | ((first | refine a133_SoF ?_ | refine σb ?_ | refine σc ?_); simp (disch := omega) only [push_cast, ↓reduceIte, reduceCtorEq, ν1, ν2, ν3, ν4, ν5, ζ1, ζ2, ζ3, ζ4, ζ5, w_i64])))
     refine ⟨rfl, rfl, k + 1, rfl, by omega, hc, fun _ => ?_, fun _ => ?_⟩
     ·subst ek; rw [e2] at hq'; exact Int.le_of_lt hq'
     ·subst ek; exact Int.le_refl _
    ·(repeat (first | refine st ?_ | refine σa ?_ | refine d133_SoF ?_ | ((first | refine a133_SoF ?_ | refine σb ?_ | refine σc ?_); simp (disch := omega) only [push_cast, ↓reduceIte, reduceCtorEq, ν1, ν2, ν3, ν4, ν5, ζ1, ζ2, ζ3, ζ4, ζ5, w_i64])))
     refine ⟨rfl, rfl, k, rfl, by omega, by omega, fun _ => ?_, fun _ => ?_⟩
     ·subst ek; exact Int.le_refl _
     ·subst ek; rw [e2] at hq'; exact hq'
   ·have hcd : decide ((k : Int) + 1 < hi) = false := decide_eq_false (by omega)
    (repeat (first | refine st ?_ | refine σa ?_ | refine d133_SoF ?_ | ((first | refine a133_SoF ?_ | refine σb ?_ | refine σc ?_); simp (disch := omega) only [push_cast, ↓reduceIte, reduceCtorEq, ν1, ν2, ν3, ν4, ν5, ζ1, ζ2, ζ3, ζ4, ζ5, hcd, ht1, ht2, l1, hlen, w_i64])))
    refine ⟨rfl, rfl, k, rfl, by omega, by omega, fun _ => ?_, fun _ => by omega⟩
    subst ek; exact Int.le_refl _
  rintro g2 M2 ⟨rfl, q, h9, hq, hqh, hm1, hm2⟩
  simp (disch := omega) only [push_cast, ↓reduceIte, reduceCtorEq, Nat.reduceAdd, Nat.reduceMul, Nat.reduceLeDiff, Nat.reduceLT, Nat.reduceSub, Int.reduceNe, Int.reduceEq, Int.reduceLE, Int.reduceLT, Int.reduceToNat, h9]
  have ht3 : ((f : Int) + q).toNat = f + q := by omega
  have ht4 : ((f : Int) + r).toNat = f + r := by omega
  have l3 := hR.ld (i := f + q) (by omega)
  have l4 := hR.ld (i := f + r) (by omega)
  (repeat (first | refine st ?_ | refine σa ?_ | refine d133_SoF ?_ | ((first | refine a133_SoF ?_ | refine σb ?_ | refine σc ?_); simp (disch := omega) only [push_cast, ↓reduceIte, reduceCtorEq, ν1, ν2, ν3, ν4, ν5, ζ1, ζ2, ζ3, ζ4, ζ5, ht3, ht4, l3, l4, hlen, w_i64])))
  (refine (less_spec _ _ _).mono ?_; rintro r M3 ⟨rfl, rfl⟩; try refine ⟨Fr.refl _, ?_⟩)
  (repeat (first | refine st ?_ | refine σa ?_ | refine d133_SoF ?_ | ((first | refine a133_SoF ?_ | refine σb ?_ | refine σc ?_); simp (disch := omega) only [push_cast, ↓reduceIte, reduceCtorEq, ν1, ν2, ν3, ν4, ν5, ζ1, ζ2, ζ3, ζ4, ζ5])))
  ((first | refine AL.gu rfl (fun hz => ?_) (fun hz => ?_) | refine AW.condS rfl rfl (fun hz => ?_) (fun hz => ?_)) <;> (try (have hz' := hz; simp only [Bool.not_eq_true', Bool.not_eq_false', Bool.not_true, Bool.not_false, decide_eq_true_eq, decide_eq_false_iff_not, Classical.not_not, Int.not_lt, Int.not_le, gt_iff_lt, ge_iff_le, beq_iff_eq] at hz')))
  ·(repeat (first | refine st ?_ | refine σa ?_ | refine d133_SoF ?_ | ((first | refine a133_SoF ?_ | refine σb ?_ | refine σc ?_); simp (disch := omega) only [push_cast, ↓reduceIte, reduceCtorEq, ν1, ν2, ν3, ν4, ν5, ζ1, ζ2, ζ3, ζ4, ζ5])))
   ((first | refine retA.ret (by rfl) ?_ | refine retA.normal (by rfl) ?_); simp (disch := omega) only [push_cast, ↓reduceIte, reduceCtorEq, Nat.reduceAdd, Nat.reduceMul, Nat.reduceLeDiff, Nat.reduceLT, Nat.reduceSub, Int.reduceNe, Int.reduceEq, Int.reduceLE, Int.reduceLT, Int.reduceToNat])
   refine ⟨ys, rfl, hP, hS.done ⟨fun h1 => ?_, fun h2 => ?_⟩⟩
   ·have := hm1 h1; unfold hget at *; omega
   ·have := hm2 h2; unfold hget at *; omega
  ·have hR1 := h.put (ys := ys.set (f + r) (ys.getD (f + q) 0)) (by simp; omega)
   (repeat (first | refine st ?_ | refine σa ?_ | refine d133_SoF ?_ | ((first | refine a133_SoF ?_ | refine σb ?_ | refine σc ?_); simp (disch := omega) only [push_cast, ↓reduceIte, reduceCtorEq, ν1, ν2, ν3, ν4, ν5, ζ1, ζ2, ζ3, ζ4, ζ5, ht3, ht4, l3, l4, hlen, w_i64, hR.get, hR1.get, hR.room, hR1.room, hR.spl, hR1.spl, Option.some.injEq, exists_eq_left', List.set_set, List.length_set, Blk.put, Blk.ours, Blk.cells])))
   refine ⟨rfl, hi - q, by omega, q, rfl, by omega, by omega, _, rfl, hP.trans (PermOn.swap (by omega) (by omega) (by omega) (by omega) (by omega)), ?_⟩
   exact hS.step (by omega) hq hqh ⟨hm1, hm2⟩ hz'
theorem d109_SoG {g n : Prop} (k : n) (h : n → g := by first | exact AW.dr (id := 10) (by rfl) [0, 1, 2, 3, 4, 5, 6, 7, 8, 9, 10, 11, 12, 13, 14, 15, 16, 17, 18, 19] (by kernel_rfl) (by kernel_rfl)) : g := h k
theorem heap_spec {M : Mem} {b off n c : Nat} {pre post : List Value} {xs : List Int} (h : Rw M b off n c pre post xs) (a e : Nat) (ha : a ≤ e) (he : e ≤ n) (hn : n ≤ 1000000000) :
  CallA Try.prog 109 [.slice (some ⟨b, off, none⟩) n c, .int .i64 a, .int .i64 e] M fun v M' => ∃ ys, M' = M.set b (.row true 1 (pre ++ ints .u32 ys ++ post)) ∧ PermOn a e xs ys ∧ SortOn a e ys := by
 have hlen := h.len
 have eh : (e : Int) - a = ((e - a : Nat) : Int) := by omega
 obtain ⟨hi, hhi⟩ : ∃ hi, hi = e - a := ⟨_, rfl⟩
 rw [← hhi] at eh
 obtain ⟨q, hq, hq1, hq2⟩ : ∃ q : Nat, ((hi : Int) - 1).tdiv 2 = q ∧ hi ≤ 2 * q + 2 ∧ q ≤ hi := by
  rcases Nat.eq_zero_or_pos hi with h0 | h0
  ·subst h0; exact ⟨0, by decide, by omega, by omega⟩
  ·exact ⟨(hi - 1) / 2, by rw [tdiv_in (by omega)]; omega, by omega, by omega⟩
 (refine CallA.of_body Try.func109 rfl (by rfl) ?_; simp only [Try.ntmps109, List.length_cons, List.length_nil, List.replicate, List.cons_append, List.nil_append, Nat.reduceSub, Nat.reduceAdd])
 (repeat (first | refine st ?_ | refine σa ?_ | refine d109_SoG ?_ | ((first | refine σb ?_ | refine σc ?_); simp (disch := omega) only [push_cast, ↓reduceIte, reduceCtorEq, ν1, ν2, ν3, ν4, ν5, ζ1, ζ2, ζ3, ζ4, ζ5, w_i64, eh, hq])))
 refine AW.loopF [9, 18, 19, 20, 21, 22, 23, 24, 25, 26] (fun m g M' => ∃ (j : Int) (k : Nat) (ys : List Int), g 9 = .int .i64 j ∧ j = (k : Int) - 1 ∧ k ≤ hi + 1 ∧ k ≤ m ∧ M' = M.set b (.row true 1 (pre ++ ints .u32 ys ++ post)) ∧ PermOn a e xs ys ∧ HeapFrom ys a k hi) (q + 1) ?_ ?_
 ·exact ⟨q, q + 1, xs, rfl, by omega, by omega, by omega, h.same.symm, PermOn.refl _ _ _, HeapFrom.half _ _ _ _ (by omega)⟩
 ·rintro m g M1 ⟨j, k, ys, h9, hj, hk1, hk2, rfl, hP, hH⟩
  have hyl := hP.len
  have hR := h.put (ys := ys) (by omega)
  simp (disch := omega) only [push_cast, ↓reduceIte, reduceCtorEq, Nat.reduceAdd, Nat.reduceMul, Nat.reduceLeDiff, Nat.reduceLT, Nat.reduceSub, Int.reduceNe, Int.reduceEq, Int.reduceLE, Int.reduceLT, Int.reduceToNat, h9]
  (repeat (first | refine st ?_ | refine σa ?_ | refine d109_SoG ?_ | ((first | refine σb ?_ | refine σc ?_); simp (disch := omega) only [push_cast, ↓reduceIte, reduceCtorEq, ν1, ν2, ν3, ν4, ν5, ζ1, ζ2, ζ3, ζ4, ζ5])))
  ((first | refine AL.gu rfl (fun hg => ?_) (fun hg => ?_) | refine AW.condS rfl rfl (fun hg => ?_) (fun hg => ?_)) <;> (try (have hg' := hg; simp only [Bool.not_eq_true', Bool.not_eq_false', Bool.not_true, Bool.not_false, decide_eq_true_eq, decide_eq_false_iff_not, Classical.not_not, Int.not_lt, Int.not_le, gt_iff_lt, ge_iff_le, beq_iff_eq] at hg')))
  ·obtain ⟨i, rfl⟩ : ∃ i : Nat, j = i := ⟨j.toNat, by omega⟩
   obtain rfl : k = i + 1 := by omega
   (repeat (first | refine st ?_ | refine σa ?_ | refine d109_SoG ?_ | ((first | refine σb ?_ | refine σc ?_); simp (disch := omega) only [push_cast, ↓reduceIte, reduceCtorEq, ν1, ν2, ν3, ν4, ν5, ζ1, ζ2, ζ3, ζ4, ζ5])))
   refine (sift_spec hR a i hi (by omega) (by omega) hn hH).mono ?_
   rintro r M2 ⟨zs, rfl, hQ, hH2⟩
   (repeat (first | refine st ?_ | refine σa ?_ | refine d109_SoG ?_ | ((first | refine σb ?_ | refine σc ?_); simp (disch := omega) only [push_cast, ↓reduceIte, reduceCtorEq, ν1, ν2, ν3, ν4, ν5, ζ1, ζ2, ζ3, ζ4, ζ5, w_i64, List.set_set])))
   refine ⟨rfl, m - 1, by omega, (i : Int) - 1, rfl, i, by omega, by omega, by omega, zs, rfl, hP.trans (hQ.mono (Nat.le_refl _) (by omega)), hH2⟩
  ·obtain rfl : k = 0 := by omega
   (repeat (first | refine st ?_ | refine σa ?_ | refine d109_SoG ?_ | ((first | refine σb ?_ | refine σc ?_); simp (disch := omega) only [push_cast, ↓reduceIte, reduceCtorEq, ν1, ν2, ν3, ν4, ν5, ζ1, ζ2, ζ3, ζ4, ζ5, w_i64])))
   refine AW.loopF [10, 29, 30, 31, 32, 33, 34, 35, 36, 37, 38, 39, 40, 41, 42, 43, 44, 45, 46, 47, 48, 49, 50, 51, 52, 53, 54, 55] (fun m g M' => ∃ (j : Int) (k : Nat) (ys : List Int), g 10 = .int .i64 j ∧ j = (k : Int) - 1 ∧ k ≤ hi ∧ k ≤ m ∧ M' = M.set b (.row true 1 (pre ++ ints .u32 ys ++ post)) ∧ PermOn a e xs ys ∧ HeapFrom ys a 0 k ∧ SortOn (a + k) e ys ∧ ∀ p q, a ≤ p → p < a + k → a + k ≤ q → q < e → ys.getD p 0 ≤ ys.getD q 0) hi ?_ ?_
   ·exact ⟨(hi : Int) - 1, hi, ys, rfl, by omega, by omega, by omega, rfl, hP, hH, fun p q h1 h2 h3 => by omega, fun p q h1 h2 h3 h4 => by omega⟩
   rintro m g M1 ⟨j, k, ys, h10, hj, hk1, hk2, rfl, hP, hH, hS, hC⟩
   have hyl := hP.len
   have hR := h.put (ys := ys) (by omega)
   simp (disch := omega) only [push_cast, ↓reduceIte, reduceCtorEq, Nat.reduceAdd, Nat.reduceMul, Nat.reduceLeDiff, Nat.reduceLT, Nat.reduceSub, Int.reduceNe, Int.reduceEq, Int.reduceLE, Int.reduceLT, Int.reduceToNat, h10]
   (repeat (first | refine st ?_ | refine σa ?_ | refine d109_SoG ?_ | ((first | refine σb ?_ | refine σc ?_); simp (disch := omega) only [push_cast, ↓reduceIte, reduceCtorEq, ν1, ν2, ν3, ν4, ν5, ζ1, ζ2, ζ3, ζ4, ζ5])))
   ((first | refine AL.gu rfl (fun hg2 => ?_) (fun hg2 => ?_) | refine AW.condS rfl rfl (fun hg2 => ?_) (fun hg2 => ?_)) <;> (try (have hg2' := hg2; simp only [Bool.not_eq_true', Bool.not_eq_false', Bool.not_true, Bool.not_false, decide_eq_true_eq, decide_eq_false_iff_not, Classical.not_not, Int.not_lt, Int.not_le, gt_iff_lt, ge_iff_le, beq_iff_eq] at hg2')))
   ·obtain ⟨i, rfl⟩ : ∃ i : Nat, j = i := ⟨j.toNat, by omega⟩
    obtain rfl : k = i + 1 := by omega
    have ht1 : ((a : Int) + i).toNat = a + i := by omega
    have l1 := hR.ld (i := a + i) (by omega)
    have l2 := hR.ld (i := a) (by omega)
    have hR1 := h.put (ys := ys.set a (ys.getD (a + i) 0)) (by simp; omega)
    have hR2 := h.put (ys := swap ys a (a + i)) (by rw [swap_length]; omega)
    (repeat (first | refine st ?_ | refine σa ?_ | refine d109_SoG ?_ | ((first | refine σb ?_ | refine σc ?_); simp (disch := omega) only [push_cast, ↓reduceIte, reduceCtorEq, ν1, ν2, ν3, ν4, ν5, ζ1, ζ2, ζ3, ζ4, ζ5, ht1, l1, l2, hlen, w_i64, Int.toNat_natCast, hR.get, hR1.get, hR.room, hR1.room, hR.spl, hR1.spl, Option.some.injEq, exists_eq_left', List.set_set, List.length_set, Blk.put, Blk.ours, Blk.cells])))
    refine (sift_spec hR2 a 0 i (by omega) (by omega) hn (hH.pop (by omega))).mono ?_
    rintro r M2 ⟨ws, rfl, hQ, hH2⟩
    (repeat (first | refine st ?_ | refine σa ?_ | refine d109_SoG ?_ | ((first | refine σb ?_ | refine σc ?_); simp (disch := omega) only [push_cast, ↓reduceIte, reduceCtorEq, ν1, ν2, ν3, ν4, ν5, ζ1, ζ2, ζ3, ζ4, ζ5, w_i64, List.set_set])))
    have hx := heap_next hH hS hC (by omega) (by omega) hQ
    refine ⟨rfl, m - 1, by omega, (i : Int) - 1, rfl, i, by omega, by omega, by omega, ws, rfl, (hP.trans (PermOn.swap (by omega) (by omega) (by omega) (by omega) (by omega))).trans (hQ.mono (Nat.le_refl _) (by omega)), hH2, hx.1, hx.2⟩
   ·obtain rfl : k = 0 := by omega
    (repeat (first | refine st ?_ | refine σa ?_ | refine d109_SoG ?_ | ((first | refine σb ?_ | refine σc ?_); simp (disch := omega) only [push_cast, ↓reduceIte, reduceCtorEq, ν1, ν2, ν3, ν4, ν5, ζ1, ζ2, ζ3, ζ4, ζ5])))
    ((first | refine retA.ret (by rfl) ?_ | refine retA.normal (by rfl) ?_); simp (disch := omega) only [push_cast, ↓reduceIte, reduceCtorEq, Nat.reduceAdd, Nat.reduceMul, Nat.reduceLeDiff, Nat.reduceLT, Nat.reduceSub, Int.reduceNe, Int.reduceEq, Int.reduceLE, Int.reduceLT, Int.reduceToNat])
    exact ⟨ys, rfl, hP, hS⟩
end Go.Proofs.Ytbdejnnbpdgjlaa.Ax
