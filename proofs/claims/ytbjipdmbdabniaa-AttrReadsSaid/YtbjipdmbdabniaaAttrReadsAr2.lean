/- Contracts of functions over the abstract machine. No conditions: lemmas alone. -/
import Derived.Test.YtbjipdmbdabniaaAttrReadsLibD
import Derived.Test.YtbjipdmbdabniaaAttrReadsAr1
namespace Go.Proofs.Ytbjipdmbdabniaa.Ax
open Go Go.RowKit
set_option linter.unusedVariables false
set_option linter.unusedSimpArgs false
set_option maxRecDepth 100000
set_option maxHeartbeats 20000000
attribute [local irreducible] thenA blockA scopeA retA AL AW AD ADL AH clrK CallA apure aload bload appK ptrK fnK ares szOk planOk okOps
theorem insU_at {x : Int} : ∀ {l : List Int} {n : Nat}, (∀ q, q < n → l.getD q 0 < x) → n ≤ l.length → insU x l = l.take n ++ insU x (l.drop n)
  | _, 0, _, _ => by simp
  | [], n + 1, _, h => by simp at h
  | y :: l, n + 1, h, hn => by
    have h0 : y < x := h 0 (by omega)
    rw [insU, if_neg (by omega), if_neg (by omega), insU_at (l := l) (n := n) (fun q hq => h (q + 1) (by omega)) (by simpa using hn)]
    rfl
theorem uniq_snoc {xs : List Int} {i : Nat} (h : i < xs.length) : uniq (xs.take (i + 1)) = insU (xs.getD i 0) (uniq (xs.take i)) := by
  rw [take_snocI h]; simp [uniq, List.foldl_append]
theorem drop_cons {l : List Int} {n : Nat} (h : n < l.length) : l.drop n = l.getD n 0 :: l.drop (n + 1) := by
  rw [List.drop_eq_getElem_cons h, getD_lt h]
theorem nums_spec (v w : Value) (xs ys : List Int) (M : Mem) (hv : Sl M v 1 (ints .u32 xs)) (hw : Sl M w 1 (ints .u32 ys)) (hl : xs.length ≤ 1000000000) : CallA Try.prog 24 [v, w] M fun r M' => M' = M ∧ r = .bool (decide (xs = ys)) := by
  have hs := hv.isSl
  have hn := hv.lnI
  have hs2 := hw.isSl
  have hn2 := hw.lnI
  (refine CallA.of_body Try.func24 rfl (by rfl) ?_; simp only [Try.ntmps24, List.length_cons, List.length_nil, List.replicate, List.cons_append, List.nil_append, Nat.reduceSub, Nat.reduceAdd])
  by_cases hlen : xs.length = ys.length
  · have d0 : decide ((xs.length : Int) = ys.length) = true := decide_eq_true (by omega)
    (repeat (first | refine st ?_ | refine ADL.hd rfl ?_ | refine blockA.here ?_ | refine blockA.exit rfl ?_ | (refine And.intro (by omega) ?_) | (refine AW.condT rfl rfl (by first | rfl | assumption) ?_) | (refine AW.condF rfl rfl (by first | rfl | assumption) ?_) | refine AW.dr (id := 6) (by rfl) [0, 1, 2, 3, 4, 5, 6, 7, 8] (by kernel_rfl) (by kernel_rfl) ?_ | ((first | refine AL.ld rfl ?_ | refine AL.pu rfl ?_ | refine AH.ld rfl ?_ | refine AH.pu rfl rfl ?_); simp (disch := omega) only [push_cast, ↓reduceIte, reduceCtorEq, Nat.reduceAdd, Nat.reduceMul, Nat.reduceLeDiff, Nat.reduceLT, Nat.reduceSub, Int.reduceNe, Int.reduceEq, Int.reduceLE, Int.reduceLT, Int.reduceToNat, hs, hn, hs2, hn2, d0, Bool.not_true])))
    refine AW.loopF [4, 5, 13, 14, 15, 16, 17, 18, 19, 20, 21, 22, 23, 24, 25] (fun m g M' => ∃ i : Nat, g 13 = .int .i64 i ∧ i + m = xs.length ∧ M' = M ∧ ∀ q, q < i → xs.getD q 0 = ys.getD q 0) xs.length ?_ ?_
    · exact ⟨0, rfl, by omega, rfl, fun q h => by omega⟩
    rintro m g M1 ⟨i, h13, hi, rfl, he⟩
    simp (disch := omega) only [push_cast, ↓reduceIte, reduceCtorEq, Nat.reduceAdd, Nat.reduceMul, Nat.reduceLeDiff, Nat.reduceLT, Nat.reduceSub, Int.reduceNe, Int.reduceEq, Int.reduceLE, Int.reduceLT, Int.reduceToNat, h13]
    (repeat (first | refine st ?_ | refine ADL.hd rfl ?_ | refine blockA.here ?_ | refine blockA.exit rfl ?_ | (refine And.intro (by omega) ?_) | (refine AW.condT rfl rfl (by first | rfl | assumption) ?_) | (refine AW.condF rfl rfl (by first | rfl | assumption) ?_) | refine AW.dr (id := 6) (by rfl) [0, 1, 2, 3, 4, 5, 6, 7, 8] (by kernel_rfl) (by kernel_rfl) ?_ | ((first | refine AL.ld rfl ?_ | refine AL.pu rfl ?_ | refine AH.ld rfl ?_ | refine AH.pu rfl rfl ?_); simp (disch := omega) only [push_cast, ↓reduceIte, reduceCtorEq, Nat.reduceAdd, Nat.reduceMul, Nat.reduceLeDiff, Nat.reduceLT, Nat.reduceSub, Int.reduceNe, Int.reduceEq, Int.reduceLE, Int.reduceLT, Int.reduceToNat])))
    ((first | refine AL.gu rfl (fun hlt => ?_) (fun hlt => ?_) | refine AW.condS rfl rfl (fun hlt => ?_) (fun hlt => ?_)) <;> (try (have hlt' := hlt; simp only [Bool.not_eq_true', Bool.not_eq_false', Bool.not_true, Bool.not_false, decide_eq_true_eq, decide_eq_false_iff_not, Classical.not_not, Int.not_lt, Int.not_le, gt_iff_lt, ge_iff_le, beq_iff_eq] at hlt')))
    · have l1 := hv.ldN (P := Try.prog) (ty := 25) (i := i) (by kernel_rfl) (by omega)
      have l2 := hw.ldN (P := Try.prog) (ty := 25) (i := i) (by kernel_rfl) (by omega)
      (repeat (first | refine st ?_ | refine ADL.hd rfl ?_ | refine blockA.here ?_ | refine blockA.exit rfl ?_ | (refine And.intro (by omega) ?_) | (refine AW.condT rfl rfl (by first | rfl | assumption) ?_) | (refine AW.condF rfl rfl (by first | rfl | assumption) ?_) | refine AW.dr (id := 6) (by rfl) [0, 1, 2, 3, 4, 5, 6, 7, 8] (by kernel_rfl) (by kernel_rfl) ?_ | ((first | refine AL.ld rfl ?_ | refine AL.pu rfl ?_ | refine AH.ld rfl ?_ | refine AH.pu rfl rfl ?_); simp (disch := omega) only [push_cast, ↓reduceIte, reduceCtorEq, Nat.reduceAdd, Nat.reduceMul, Nat.reduceLeDiff, Nat.reduceLT, Nat.reduceSub, Int.reduceNe, Int.reduceEq, Int.reduceLE, Int.reduceLT, Int.reduceToNat, hs, hn, hs2, hn2, l1, l2, Int.toNat_natCast])))
      ((first | refine AL.gu rfl (fun hne => ?_) (fun hne => ?_) | refine AW.condS rfl rfl (fun hne => ?_) (fun hne => ?_)) <;> (try (have hne' := hne; simp only [Bool.not_eq_true', Bool.not_eq_false', Bool.not_true, Bool.not_false, decide_eq_true_eq, decide_eq_false_iff_not, Classical.not_not, Int.not_lt, Int.not_le, gt_iff_lt, ge_iff_le, beq_iff_eq] at hne')))
      · (repeat (first | refine st ?_ | refine ADL.hd rfl ?_ | refine blockA.here ?_ | refine blockA.exit rfl ?_ | (refine And.intro (by omega) ?_) | (refine AW.condT rfl rfl (by first | rfl | assumption) ?_) | (refine AW.condF rfl rfl (by first | rfl | assumption) ?_) | refine AW.dr (id := 6) (by rfl) [0, 1, 2, 3, 4, 5, 6, 7, 8] (by kernel_rfl) (by kernel_rfl) ?_ | ((first | refine AL.ld rfl ?_ | refine AL.pu rfl ?_ | refine AH.ld rfl ?_ | refine AH.pu rfl rfl ?_); simp (disch := omega) only [push_cast, ↓reduceIte, reduceCtorEq, Nat.reduceAdd, Nat.reduceMul, Nat.reduceLeDiff, Nat.reduceLT, Nat.reduceSub, Int.reduceNe, Int.reduceEq, Int.reduceLE, Int.reduceLT, Int.reduceToNat])))
        ((first | refine retA.ret (by rfl) ?_ | refine retA.normal (by rfl) ?_); simp (disch := omega) only [push_cast, ↓reduceIte, reduceCtorEq, Nat.reduceAdd, Nat.reduceMul, Nat.reduceLeDiff, Nat.reduceLT, Nat.reduceSub, Int.reduceNe, Int.reduceEq, Int.reduceLE, Int.reduceLT, Int.reduceToNat])
        have hx : xs ≠ ys := fun e => hne' (by rw [e])
        simp [hx]
      · (repeat (first | refine st ?_ | refine ADL.hd rfl ?_ | refine blockA.here ?_ | refine blockA.exit rfl ?_ | (refine And.intro (by omega) ?_) | (refine AW.condT rfl rfl (by first | rfl | assumption) ?_) | (refine AW.condF rfl rfl (by first | rfl | assumption) ?_) | refine AW.dr (id := 6) (by rfl) [0, 1, 2, 3, 4, 5, 6, 7, 8] (by kernel_rfl) (by kernel_rfl) ?_ | ((first | refine AL.ld rfl ?_ | refine AL.pu rfl ?_ | refine AH.ld rfl ?_ | refine AH.pu rfl rfl ?_); simp (disch := omega) only [push_cast, ↓reduceIte, reduceCtorEq, Nat.reduceAdd, Nat.reduceMul, Nat.reduceLeDiff, Nat.reduceLT, Nat.reduceSub, Int.reduceNe, Int.reduceEq, Int.reduceLE, Int.reduceLT, Int.reduceToNat, w_i64])))
        refine ⟨rfl, m - 1, by omega, i + 1, rfl, by omega, rfl, fun q hq => ?_⟩
        by_cases e : q = i
        · rw [e]; exact hne'
        · exact he q (by omega)
    · (repeat (first | refine st ?_ | refine ADL.hd rfl ?_ | refine blockA.here ?_ | refine blockA.exit rfl ?_ | (refine And.intro (by omega) ?_) | (refine AW.condT rfl rfl (by first | rfl | assumption) ?_) | (refine AW.condF rfl rfl (by first | rfl | assumption) ?_) | refine AW.dr (id := 6) (by rfl) [0, 1, 2, 3, 4, 5, 6, 7, 8] (by kernel_rfl) (by kernel_rfl) ?_ | ((first | refine AL.ld rfl ?_ | refine AL.pu rfl ?_ | refine AH.ld rfl ?_ | refine AH.pu rfl rfl ?_); simp (disch := omega) only [push_cast, ↓reduceIte, reduceCtorEq, Nat.reduceAdd, Nat.reduceMul, Nat.reduceLeDiff, Nat.reduceLT, Nat.reduceSub, Int.reduceNe, Int.reduceEq, Int.reduceLE, Int.reduceLT, Int.reduceToNat])))
      ((first | refine retA.ret (by rfl) ?_ | refine retA.normal (by rfl) ?_); simp (disch := omega) only [push_cast, ↓reduceIte, reduceCtorEq, Nat.reduceAdd, Nat.reduceMul, Nat.reduceLeDiff, Nat.reduceLT, Nat.reduceSub, Int.reduceNe, Int.reduceEq, Int.reduceLE, Int.reduceLT, Int.reduceToNat])
      have hx : xs = ys := by
        apply List.ext_getElem hlen
        intro q h1 h2
        have := he q (by omega)
        rwa [getD_lt h1, getD_lt h2] at this
      simp [hx]
  · have d0 : decide ((xs.length : Int) = ys.length) = false := decide_eq_false (by omega)
    (repeat (first | refine st ?_ | refine ADL.hd rfl ?_ | refine blockA.here ?_ | refine blockA.exit rfl ?_ | (refine And.intro (by omega) ?_) | (refine AW.condT rfl rfl (by first | rfl | assumption) ?_) | (refine AW.condF rfl rfl (by first | rfl | assumption) ?_) | refine AW.dr (id := 6) (by rfl) [0, 1, 2, 3, 4, 5, 6, 7, 8] (by kernel_rfl) (by kernel_rfl) ?_ | ((first | refine AL.ld rfl ?_ | refine AL.pu rfl ?_ | refine AH.ld rfl ?_ | refine AH.pu rfl rfl ?_); simp (disch := omega) only [push_cast, ↓reduceIte, reduceCtorEq, Nat.reduceAdd, Nat.reduceMul, Nat.reduceLeDiff, Nat.reduceLT, Nat.reduceSub, Int.reduceNe, Int.reduceEq, Int.reduceLE, Int.reduceLT, Int.reduceToNat, hs, hn, hs2, hn2, d0, Bool.not_false])))
    ((first | refine retA.ret (by rfl) ?_ | refine retA.normal (by rfl) ?_); simp (disch := omega) only [push_cast, ↓reduceIte, reduceCtorEq, Nat.reduceAdd, Nat.reduceMul, Nat.reduceLeDiff, Nat.reduceLT, Nat.reduceSub, Int.reduceNe, Int.reduceEq, Int.reduceLE, Int.reduceLT, Int.reduceToNat])
    have hx : xs ≠ ys := fun e => hlen (by rw [e])
    simp [hx]
theorem sorted_spec (v : Value) (xs : List Int) (M : Mem) (hv : Sl M v 1 (ints .u32 xs)) (hl : xs.length ≤ 100000) : CallA Try.prog 40 [v] M fun r M' => Fr M M' [] ∧ New M M' r 1 (ints .u32 (uniq xs)) := by
  have hs := hv.isSl
  have hn := hv.lnI
  (refine CallA.of_body Try.func40 rfl (by rfl) ?_; simp only [Try.ntmps40, List.length_cons, List.length_nil, List.replicate, List.cons_append, List.nil_append, Nat.reduceSub, Nat.reduceAdd])
  (repeat (first | refine st ?_ | refine blockA.here ?_ | refine blockA.exit rfl ?_ | (refine And.intro (by omega) ?_) | (refine AW.condT rfl rfl (by first | rfl | assumption) ?_) | (refine AW.condF rfl rfl (by first | rfl | assumption) ?_) | (refine AL.guT rfl (by first | rfl | assumption) ?_) | ((first | refine AL.ld rfl ?_ | refine AL.lt rfl ?_ | refine AL.st rfl rfl ?_ | refine AL.ap rfl rfl ?_ | refine AL.pu rfl ?_ | refine AL.guF rfl (by first | rfl | assumption) ?_ | refine AL.skip rfl ?_); simp (disch := omega) only [push_cast, ↓reduceIte, reduceCtorEq, Nat.reduceAdd, Nat.reduceMul, Nat.reduceLeDiff, Nat.reduceLT, Nat.reduceSub, Int.reduceNe, Int.reduceEq, Int.reduceLE, Int.reduceLT, Int.reduceToNat, hs, hn])))
  refine AW.loopF [3, 5, 6, 7, 10, 11, 12, 13, 14, 15, 16, 17, 18, 19, 20, 21, 22, 23, 24, 25, 26, 27, 28, 29, 30, 31, 32, 33, 34, 35, 36, 37, 38, 39, 40, 41, 42, 43, 44, 45, 46, 47, 48, 49, 50, 51, 52, 53, 54, 55, 56, 57, 58, 59, 60, 61, 62, 63] (fun m g M' => ∃ i : Nat, g 10 = .int .i64 i ∧ ∃ o, g 3 = o ∧ i + m = xs.length ∧ Fr M M' [] ∧ New M M' o 1 (ints .u32 (uniq (xs.take i)))) xs.length ?_ ?_
  · exact ⟨0, rfl, .slice none 0 0, rfl, by omega, Fr.refl M, New.nil M (by omega)⟩
  rintro m g M1 ⟨i, h10, o, h3, hi, hF, hN⟩
  simp (disch := omega) only [push_cast, ↓reduceIte, reduceCtorEq, Nat.reduceAdd, Nat.reduceMul, Nat.reduceLeDiff, Nat.reduceLT, Nat.reduceSub, Int.reduceNe, Int.reduceEq, Int.reduceLE, Int.reduceLT, Int.reduceToNat, h10, h3]
  (repeat (first | refine st ?_ | refine blockA.here ?_ | refine blockA.exit rfl ?_ | (refine And.intro (by omega) ?_) | (refine AW.condT rfl rfl (by first | rfl | assumption) ?_) | (refine AW.condF rfl rfl (by first | rfl | assumption) ?_) | (refine AL.guT rfl (by first | rfl | assumption) ?_) | ((first | refine AL.ld rfl ?_ | refine AL.lt rfl ?_ | refine AL.st rfl rfl ?_ | refine AL.ap rfl rfl ?_ | refine AL.pu rfl ?_ | refine AL.guF rfl (by first | rfl | assumption) ?_ | refine AL.skip rfl ?_); simp (disch := omega) only [push_cast, ↓reduceIte, reduceCtorEq, Nat.reduceAdd, Nat.reduceMul, Nat.reduceLeDiff, Nat.reduceLT, Nat.reduceSub, Int.reduceNe, Int.reduceEq, Int.reduceLE, Int.reduceLT, Int.reduceToNat])))
  ((first | refine AL.gu rfl (fun hlt => ?_) (fun hlt => ?_) | refine AW.condS rfl rfl (fun hlt => ?_) (fun hlt => ?_)) <;> (try (have hlt' := hlt; simp only [Bool.not_eq_true', Bool.not_eq_false', Bool.not_true, Bool.not_false, decide_eq_true_eq, decide_eq_false_iff_not, Classical.not_not, Int.not_lt, Int.not_le, gt_iff_lt, ge_iff_le, beq_iff_eq] at hlt')))
  · have hil : i < xs.length := by omega
    have hv1 := hv.keep hF (by simp)
    have l1 := hv1.ldN (P := Try.prog) (ty := 25) (i := i) (by kernel_rfl) hil
    have hsnoc := uniq_snoc hil
    have hul : (uniq (xs.take i)).length ≤ i := Nat.le_trans (uniq_length _) (by rw [List.length_take]; omega)
    generalize hx : xs.getD i 0 = x at *
    generalize uniq (xs.take i) = l at *
    have hso := hN.sl.isSl
    have hno := hN.sl.lnI
    (repeat (first | refine st ?_ | refine blockA.here ?_ | refine blockA.exit rfl ?_ | (refine And.intro (by omega) ?_) | (refine AW.condT rfl rfl (by first | rfl | assumption) ?_) | (refine AW.condF rfl rfl (by first | rfl | assumption) ?_) | (refine AL.guT rfl (by first | rfl | assumption) ?_) | ((first | refine AL.ld rfl ?_ | refine AL.lt rfl ?_ | refine AL.st rfl rfl ?_ | refine AL.ap rfl rfl ?_ | refine AL.pu rfl ?_ | refine AL.guF rfl (by first | rfl | assumption) ?_ | refine AL.skip rfl ?_); simp (disch := omega) only [push_cast, ↓reduceIte, reduceCtorEq, Nat.reduceAdd, Nat.reduceMul, Nat.reduceLeDiff, Nat.reduceLT, Nat.reduceSub, Int.reduceNe, Int.reduceEq, Int.reduceLE, Int.reduceLT, Int.reduceToNat, hs, hn, l1, Int.toNat_natCast])))
    refine AW.loopX 2 [6, 14, 15, 16, 17, 18, 19, 20, 21, 22, 23, 24, 25, 26, 27] (fun m' g M' => ∃ q : Nat, g 6 = .int .i64 q ∧ q + m' = l.length ∧ M' = M1 ∧ ∀ p, p < q → l.getD p 0 < x)
      (fun g M' => ∃ q : Nat, g 6 = .int .i64 q ∧ q ≤ l.length ∧ M' = M1 ∧ (∀ p, p < q → l.getD p 0 < x) ∧ (q < l.length → x ≤ l.getD q 0)) l.length ?_ ?_ ?_
    · exact ⟨0, rfl, by omega, rfl, fun p h => by omega⟩
    · rintro m1 g1 M2 ⟨q, h6, hq, rfl, hp⟩
      simp (disch := omega) only [push_cast, ↓reduceIte, reduceCtorEq, Nat.reduceAdd, Nat.reduceMul, Nat.reduceLeDiff, Nat.reduceLT, Nat.reduceSub, Int.reduceNe, Int.reduceEq, Int.reduceLE, Int.reduceLT, Int.reduceToNat, h6]
      by_cases hql : q < l.length
      · have hd : decide ((q : Int) < l.length) = true := decide_eq_true (by omega)
        have l2 := hN.sl.ldN (P := Try.prog) (ty := 25) (i := q) (by kernel_rfl) hql
        (repeat (first | refine st ?_ | refine blockA.here ?_ | refine blockA.exit rfl ?_ | (refine And.intro (by omega) ?_) | (refine AW.condT rfl rfl (by first | rfl | assumption) ?_) | (refine AW.condF rfl rfl (by first | rfl | assumption) ?_) | (refine AL.guT rfl (by first | rfl | assumption) ?_) | ((first | refine AL.ld rfl ?_ | refine AL.lt rfl ?_ | refine AL.st rfl rfl ?_ | refine AL.ap rfl rfl ?_ | refine AL.pu rfl ?_ | refine AL.guF rfl (by first | rfl | assumption) ?_ | refine AL.skip rfl ?_); simp (disch := omega) only [push_cast, ↓reduceIte, reduceCtorEq, Nat.reduceAdd, Nat.reduceMul, Nat.reduceLeDiff, Nat.reduceLT, Nat.reduceSub, Int.reduceNe, Int.reduceEq, Int.reduceLE, Int.reduceLT, Int.reduceToNat, hso, hno, hd, l2, Int.toNat_natCast])))
        ((first | refine AL.gu rfl (fun hc => ?_) (fun hc => ?_) | refine AW.condS rfl rfl (fun hc => ?_) (fun hc => ?_)) <;> (try (have hc' := hc; simp only [Bool.not_eq_true', Bool.not_eq_false', Bool.not_true, Bool.not_false, decide_eq_true_eq, decide_eq_false_iff_not, Classical.not_not, Int.not_lt, Int.not_le, gt_iff_lt, ge_iff_le, beq_iff_eq] at hc')))
        · (repeat (first | refine st ?_ | refine blockA.here ?_ | refine blockA.exit rfl ?_ | (refine And.intro (by omega) ?_) | (refine AW.condT rfl rfl (by first | rfl | assumption) ?_) | (refine AW.condF rfl rfl (by first | rfl | assumption) ?_) | (refine AL.guT rfl (by first | rfl | assumption) ?_) | ((first | refine AL.ld rfl ?_ | refine AL.lt rfl ?_ | refine AL.st rfl rfl ?_ | refine AL.ap rfl rfl ?_ | refine AL.pu rfl ?_ | refine AL.guF rfl (by first | rfl | assumption) ?_ | refine AL.skip rfl ?_); simp (disch := omega) only [push_cast, ↓reduceIte, reduceCtorEq, Nat.reduceAdd, Nat.reduceMul, Nat.reduceLeDiff, Nat.reduceLT, Nat.reduceSub, Int.reduceNe, Int.reduceEq, Int.reduceLE, Int.reduceLT, Int.reduceToNat, w_i64])))
          refine ⟨rfl, m1 - 1, by omega, q + 1, rfl, by omega, rfl, fun p h => ?_⟩
          by_cases e : p = q
          · rw [e]; exact hc'
          · exact hp p (by omega)
        · (repeat (first | refine st ?_ | refine blockA.here ?_ | refine blockA.exit rfl ?_ | (refine And.intro (by omega) ?_) | (refine AW.condT rfl rfl (by first | rfl | assumption) ?_) | (refine AW.condF rfl rfl (by first | rfl | assumption) ?_) | (refine AL.guT rfl (by first | rfl | assumption) ?_) | ((first | refine AL.ld rfl ?_ | refine AL.lt rfl ?_ | refine AL.st rfl rfl ?_ | refine AL.ap rfl rfl ?_ | refine AL.pu rfl ?_ | refine AL.guF rfl (by first | rfl | assumption) ?_ | refine AL.skip rfl ?_); simp (disch := omega) only [push_cast, ↓reduceIte, reduceCtorEq, Nat.reduceAdd, Nat.reduceMul, Nat.reduceLeDiff, Nat.reduceLT, Nat.reduceSub, Int.reduceNe, Int.reduceEq, Int.reduceLE, Int.reduceLT, Int.reduceToNat])))
          exact ⟨rfl, q, rfl, by omega, rfl, hp, fun _ => hc'⟩
      · have hd : decide ((q : Int) < l.length) = false := decide_eq_false (by omega)
        (repeat (first | refine st ?_ | refine blockA.here ?_ | refine blockA.exit rfl ?_ | (refine And.intro (by omega) ?_) | (refine AW.condT rfl rfl (by first | rfl | assumption) ?_) | (refine AW.condF rfl rfl (by first | rfl | assumption) ?_) | (refine AL.guT rfl (by first | rfl | assumption) ?_) | ((first | refine AL.ld rfl ?_ | refine AL.lt rfl ?_ | refine AL.st rfl rfl ?_ | refine AL.ap rfl rfl ?_ | refine AL.pu rfl ?_ | refine AL.guF rfl (by first | rfl | assumption) ?_ | refine AL.skip rfl ?_); simp (disch := omega) only [push_cast, ↓reduceIte, reduceCtorEq, Nat.reduceAdd, Nat.reduceMul, Nat.reduceLeDiff, Nat.reduceLT, Nat.reduceSub, Int.reduceNe, Int.reduceEq, Int.reduceLE, Int.reduceLT, Int.reduceToNat, hso, hno, hd])))
        exact ⟨rfl, q, rfl, by omega, rfl, hp, fun h => absurd h hql⟩
    rintro g1 M2 ⟨q, h6, hq, rfl, hp, hge⟩
    simp (disch := omega) only [push_cast, ↓reduceIte, reduceCtorEq, Nat.reduceAdd, Nat.reduceMul, Nat.reduceLeDiff, Nat.reduceLT, Nat.reduceSub, Int.reduceNe, Int.reduceEq, Int.reduceLE, Int.reduceLT, Int.reduceToNat, h6]
    have hins := insU_at hp hq
    refine blockA.here ?_
    refine thenA.normal ?_
    refine AW.seq ?_
    refine AW.joinF [28, 29, 30, 31, 32, 33, 34, 35, 36, 37, 38, 39] (fun g M' => M' = M2 ∧ (q < l.length → x < l.getD q 0)) ?_ ?_
    · by_cases hql : q < l.length
      · have hd : decide ((q : Int) < l.length) = true := decide_eq_true (by omega)
        have l2 := hN.sl.ldN (P := Try.prog) (ty := 25) (i := q) (by kernel_rfl) hql
        by_cases hqx : l.getD q 0 = x
        · have de : decide (x = x) = true := decide_eq_true rfl
          (repeat (first | refine st ?_ | refine blockA.here ?_ | refine blockA.exit rfl ?_ | (refine And.intro (by omega) ?_) | (refine AW.condT rfl rfl (by first | rfl | assumption) ?_) | (refine AW.condF rfl rfl (by first | rfl | assumption) ?_) | (refine AL.guT rfl (by first | rfl | assumption) ?_) | ((first | refine AL.ld rfl ?_ | refine AL.lt rfl ?_ | refine AL.st rfl rfl ?_ | refine AL.ap rfl rfl ?_ | refine AL.pu rfl ?_ | refine AL.guF rfl (by first | rfl | assumption) ?_ | refine AL.skip rfl ?_); simp (disch := omega) only [push_cast, ↓reduceIte, reduceCtorEq, Nat.reduceAdd, Nat.reduceMul, Nat.reduceLeDiff, Nat.reduceLT, Nat.reduceSub, Int.reduceNe, Int.reduceEq, Int.reduceLE, Int.reduceLT, Int.reduceToNat, hso, hno, hd, l2, hqx, de, w_i64, Int.toNat_natCast])))
          have e : insU x l = l := by
            rw [hins, drop_cons hql, hqx, insU, if_neg (by omega), if_pos rfl]
            conv => rhs; rw [← List.take_append_drop q l, drop_cons hql, hqx]
          refine ⟨rfl, m - 1, by omega, i + 1, rfl, by omega, hF, ?_⟩
          rw [hsnoc, e]; exact hN
        · have de : decide (l.getD q 0 = x) = false := decide_eq_false hqx
          (repeat (first | refine st ?_ | refine blockA.here ?_ | refine blockA.exit rfl ?_ | (refine And.intro (by omega) ?_) | (refine AW.condT rfl rfl (by first | rfl | assumption) ?_) | (refine AW.condF rfl rfl (by first | rfl | assumption) ?_) | (refine AL.guT rfl (by first | rfl | assumption) ?_) | ((first | refine AL.ld rfl ?_ | refine AL.lt rfl ?_ | refine AL.st rfl rfl ?_ | refine AL.ap rfl rfl ?_ | refine AL.pu rfl ?_ | refine AL.guF rfl (by first | rfl | assumption) ?_ | refine AL.skip rfl ?_); simp (disch := omega) only [push_cast, ↓reduceIte, reduceCtorEq, Nat.reduceAdd, Nat.reduceMul, Nat.reduceLeDiff, Nat.reduceLT, Nat.reduceSub, Int.reduceNe, Int.reduceEq, Int.reduceLE, Int.reduceLT, Int.reduceToNat, hso, hno, hd, l2, de, Int.toNat_natCast])))
          exact ⟨rfl, rfl, fun _ => by have := hge hql; omega⟩
      · have hd : decide ((q : Int) < l.length) = false := decide_eq_false (by omega)
        (repeat (first | refine st ?_ | refine blockA.here ?_ | refine blockA.exit rfl ?_ | (refine And.intro (by omega) ?_) | (refine AW.condT rfl rfl (by first | rfl | assumption) ?_) | (refine AW.condF rfl rfl (by first | rfl | assumption) ?_) | (refine AL.guT rfl (by first | rfl | assumption) ?_) | ((first | refine AL.ld rfl ?_ | refine AL.lt rfl ?_ | refine AL.st rfl rfl ?_ | refine AL.ap rfl rfl ?_ | refine AL.pu rfl ?_ | refine AL.guF rfl (by first | rfl | assumption) ?_ | refine AL.skip rfl ?_); simp (disch := omega) only [push_cast, ↓reduceIte, reduceCtorEq, Nat.reduceAdd, Nat.reduceMul, Nat.reduceLeDiff, Nat.reduceLT, Nat.reduceSub, Int.reduceNe, Int.reduceEq, Int.reduceLE, Int.reduceLT, Int.reduceToNat, hso, hno, hd])))
        exact ⟨rfl, rfl, fun h => absurd h hql⟩
    clear hge
    rintro g2 M3 ⟨rfl, hgt⟩
    simp (disch := omega) only [push_cast, ↓reduceIte, reduceCtorEq, Nat.reduceAdd, Nat.reduceMul, Nat.reduceLeDiff, Nat.reduceLT, Nat.reduceSub, Int.reduceNe, Int.reduceEq, Int.reduceLE, Int.reduceLT, Int.reduceToNat]
    (repeat (first | refine st ?_ | refine blockA.here ?_ | refine blockA.exit rfl ?_ | (refine And.intro (by omega) ?_) | (refine AW.condT rfl rfl (by first | rfl | assumption) ?_) | (refine AW.condF rfl rfl (by first | rfl | assumption) ?_) | (refine AL.guT rfl (by first | rfl | assumption) ?_) | ((first | refine AL.ld rfl ?_ | refine AL.lt rfl ?_ | refine AL.st rfl rfl ?_ | refine AL.ap rfl rfl ?_ | refine AL.pu rfl ?_ | refine AL.guF rfl (by first | rfl | assumption) ?_ | refine AL.skip rfl ?_); simp (disch := omega) only [push_cast, ↓reduceIte, reduceCtorEq, Nat.reduceAdd, Nat.reduceMul, Nat.reduceLeDiff, Nat.reduceLT, Nat.reduceSub, Int.reduceNe, Int.reduceEq, Int.reduceLE, Int.reduceLT, Int.reduceToNat])))
    have hrow := New.row M3 (s := 1) (n := 1) (cs := ints .u32 [0]) (by omega) rfl rfl (by decide)
    have hN1 := hN.keep (Fr.push M3 (.row true 1 [.int .u32 0])) (by simp)
    refine appK.ints (P := Try.prog) (e := 25) (bt := 4) (z := .int .u32 0) (by kernel_rfl) (by kernel_rfl) (by kernel_rfl) (by kernel_rfl) (by decide) hN1.1 hrow.sl (by simp; omega) ?_
    intro v' M4 hN4 hF4
    have hF5 : Fr M M4 [] := (hF.tr (Fr.push M3 _)).new hN1 hF4
    have hN5 := hN4.after (hF.tr (Fr.push M3 _))
    have hs5 := hN5.sl.isSl
    have hn5 := hN5.sl.lnI
    have hl1 : (l ++ [0]).length = l.length + 1 := by simp
    rw [hl1] at hn5
    (repeat (first | refine st ?_ | refine blockA.here ?_ | refine blockA.exit rfl ?_ | (refine And.intro (by omega) ?_) | (refine AW.condT rfl rfl (by first | rfl | assumption) ?_) | (refine AW.condF rfl rfl (by first | rfl | assumption) ?_) | (refine AL.guT rfl (by first | rfl | assumption) ?_) | ((first | refine AL.ld rfl ?_ | refine AL.lt rfl ?_ | refine AL.st rfl rfl ?_ | refine AL.ap rfl rfl ?_ | refine AL.pu rfl ?_ | refine AL.guF rfl (by first | rfl | assumption) ?_ | refine AL.skip rfl ?_); simp (disch := omega) only [push_cast, ↓reduceIte, reduceCtorEq, Nat.reduceAdd, Nat.reduceMul, Nat.reduceLeDiff, Nat.reduceLT, Nat.reduceSub, Int.reduceNe, Int.reduceEq, Int.reduceLE, Int.reduceLT, Int.reduceToNat, hs5, hn5, w_i64])))
    rcases hN5.1.rw with ⟨h0, _⟩ | ⟨b, off, c, pre, rfl, hR⟩
    · simp at h0
    rw [hl1] at hR
    have hbm : M.length ≤ b := hN5.blk b (by show b ∈ (if c = 0 then [] else [b]); rw [if_neg hR.pos]; simp)
    rw [hl1]
    refine AW.loopF [7, 46, 47, 48, 49, 50, 51, 52, 53, 54, 55, 56, 57, 58] (fun m' g M' => ∃ u : Nat, g 7 = .int .i64 u ∧ q ≤ u ∧ u = q + m' ∧ u ≤ l.length ∧ ∃ ys, M' = M4.set b (.row true 1 (pre ++ ints .u32 ys ++ [])) ∧ ys.length = l.length + 1 ∧ (∀ p, p < u → ys.getD p 0 = l.getD p 0) ∧ ∀ p, u < p → p ≤ l.length → ys.getD p 0 = l.getD (p - 1) 0) (l.length - q) ?_ ?_
    · refine ⟨l.length, congrArg (Value.int .i64) (by omega), hq, by omega, by omega, l ++ [0], hR.same.symm, by simp, fun p hp => ?_, fun p h1 h2 => by omega⟩
      rw [List.getD_eq_getElem?_getD, List.getElem?_append_left hp, ← List.getD_eq_getElem?_getD]
    rintro m2 g3 M5 ⟨u, h7, hu1, hu2, hu3, ys, rfl, hyl, ylo, yhi⟩
    have hRy := hR.put (ys := ys) (by omega)
    simp (disch := omega) only [push_cast, ↓reduceIte, reduceCtorEq, Nat.reduceAdd, Nat.reduceMul, Nat.reduceLeDiff, Nat.reduceLT, Nat.reduceSub, Int.reduceNe, Int.reduceEq, Int.reduceLE, Int.reduceLT, Int.reduceToNat, h7]
    (repeat (first | refine st ?_ | refine blockA.here ?_ | refine blockA.exit rfl ?_ | (refine And.intro (by omega) ?_) | (refine AW.condT rfl rfl (by first | rfl | assumption) ?_) | (refine AW.condF rfl rfl (by first | rfl | assumption) ?_) | (refine AL.guT rfl (by first | rfl | assumption) ?_) | ((first | refine AL.ld rfl ?_ | refine AL.lt rfl ?_ | refine AL.st rfl rfl ?_ | refine AL.ap rfl rfl ?_ | refine AL.pu rfl ?_ | refine AL.guF rfl (by first | rfl | assumption) ?_ | refine AL.skip rfl ?_); simp (disch := omega) only [push_cast, ↓reduceIte, reduceCtorEq, Nat.reduceAdd, Nat.reduceMul, Nat.reduceLeDiff, Nat.reduceLT, Nat.reduceSub, Int.reduceNe, Int.reduceEq, Int.reduceLE, Int.reduceLT, Int.reduceToNat])))
    ((first | refine AL.gu rfl (fun hug => ?_) (fun hug => ?_) | refine AW.condS rfl rfl (fun hug => ?_) (fun hug => ?_)) <;> (try (have hug' := hug; simp only [Bool.not_eq_true', Bool.not_eq_false', Bool.not_true, Bool.not_false, decide_eq_true_eq, decide_eq_false_iff_not, Classical.not_not, Int.not_lt, Int.not_le, gt_iff_lt, ge_iff_le, beq_iff_eq] at hug')))
    · have l3 := hRy.ld (i := u - 1) (by omega)
      have hR3 := hR.put (ys := ys.set u (ys.getD (u - 1) 0)) (by simp; omega)
      (repeat (first | refine st ?_ | refine blockA.here ?_ | refine blockA.exit rfl ?_ | (refine And.intro (by omega) ?_) | (refine AW.condT rfl rfl (by first | rfl | assumption) ?_) | (refine AW.condF rfl rfl (by first | rfl | assumption) ?_) | (refine AL.guT rfl (by first | rfl | assumption) ?_) | ((first | refine AL.ld rfl ?_ | refine AL.lt rfl ?_ | refine AL.st rfl rfl ?_ | refine AL.ap rfl rfl ?_ | refine AL.pu rfl ?_ | refine AL.guF rfl (by first | rfl | assumption) ?_ | refine AL.skip rfl ?_); simp (disch := omega) only [push_cast, ↓reduceIte, reduceCtorEq, Nat.reduceAdd, Nat.reduceMul, Nat.reduceLeDiff, Nat.reduceLT, Nat.reduceSub, Int.reduceNe, Int.reduceEq, Int.reduceLE, Int.reduceLT, Int.reduceToNat, l3, tn_sub1, w_i64, Int.toNat_natCast, hRy.get, hRy.room, hRy.spl, Option.some.injEq, exists_eq_left', List.set_set, List.length_set, Blk.put, Blk.ours, Blk.cells])))
      refine ⟨rfl, m2 - 1, by omega, u - 1, congrArg (Value.int .i64) (by omega), by omega, by omega, by omega, ys.set u (ys.getD (u - 1) 0), rfl, by simp; omega, fun p hp => ?_, fun p h1 h2 => ?_⟩
      · rw [List.getD_eq_getElem?_getD, List.getElem?_set_ne (by omega), ← List.getD_eq_getElem?_getD]; exact ylo p (by omega)
      · by_cases e : p = u
        · subst e
          rw [getD_lt (by simp; omega), List.getElem_set_self, ylo _ (by omega)]
        · rw [List.getD_eq_getElem?_getD, List.getElem?_set_ne (by omega), ← List.getD_eq_getElem?_getD]; exact yhi p (by omega) h2
    · obtain rfl : u = q := by omega
      have hR3 := hR.put (ys := ys.set u x) (by simp; omega)
      (repeat (first | refine st ?_ | refine blockA.here ?_ | refine blockA.exit rfl ?_ | (refine And.intro (by omega) ?_) | (refine AW.condT rfl rfl (by first | rfl | assumption) ?_) | (refine AW.condF rfl rfl (by first | rfl | assumption) ?_) | (refine AL.guT rfl (by first | rfl | assumption) ?_) | ((first | refine AL.ld rfl ?_ | refine AL.lt rfl ?_ | refine AL.st rfl rfl ?_ | refine AL.ap rfl rfl ?_ | refine AL.pu rfl ?_ | refine AL.guF rfl (by first | rfl | assumption) ?_ | refine AL.skip rfl ?_); simp (disch := omega) only [push_cast, ↓reduceIte, reduceCtorEq, Nat.reduceAdd, Nat.reduceMul, Nat.reduceLeDiff, Nat.reduceLT, Nat.reduceSub, Int.reduceNe, Int.reduceEq, Int.reduceLE, Int.reduceLT, Int.reduceToNat, w_i64, Int.toNat_natCast, hRy.get, hRy.room, hRy.spl, Option.some.injEq, exists_eq_left', List.set_set, List.length_set, Blk.put, Blk.ours, Blk.cells])))
      have e : ys.set u x = uniq (xs.take (i + 1)) := by
        have e2 : insU x (l.drop u) = x :: l.drop u := by
          rcases Nat.lt_or_ge u l.length with h | h
          · rw [drop_cons h, insU, if_pos (hgt h)]
          · rw [List.drop_of_length_le h]; rfl
        rw [hsnoc, hins, e2]
        apply List.ext_getElem
        · simp; omega
        · intro p p1 p2
          have p1' : p < ys.length := by simpa using p1
          rw [List.getElem_set]
          by_cases ep : u = p
          · subst ep; rw [if_pos rfl, List.getElem_append_right (by simp; omega)]; simp [Nat.min_eq_left hu3]
          · rw [if_neg ep]
            rcases Nat.lt_or_ge p u with h | h
            · rw [List.getElem_append_left (by simp; omega), List.getElem_take]
              have := ylo p h
              rwa [getD_lt p1', getD_lt (by omega)] at this
            · rw [List.getElem_append_right (by simp; omega)]
              have := yhi p (by omega) (by omega)
              rw [getD_lt p1', getD_lt (by omega)] at this
              rw [this]
              have e3 : p - (l.take u).length = (p - u - 1) + 1 := by simp; omega
              simp only [e3, List.getElem_cons_succ, List.getElem_drop]
              congr 1
              omega
      refine ⟨rfl, m - 1, by omega, i + 1, rfl, by omega, (hF5.trans (Fr.set M4 b _)).cut (by intro x hx hlt; simp at hx; omega), ?_⟩
      refine ⟨by rw [← e]; exact hR3.own, fun a n' c' hv' hc' => by cases hv'; exact hbm⟩
  · (repeat (first | refine st ?_ | refine blockA.here ?_ | refine blockA.exit rfl ?_ | (refine And.intro (by omega) ?_) | (refine AW.condT rfl rfl (by first | rfl | assumption) ?_) | (refine AW.condF rfl rfl (by first | rfl | assumption) ?_) | (refine AL.guT rfl (by first | rfl | assumption) ?_) | ((first | refine AL.ld rfl ?_ | refine AL.lt rfl ?_ | refine AL.st rfl rfl ?_ | refine AL.ap rfl rfl ?_ | refine AL.pu rfl ?_ | refine AL.guF rfl (by first | rfl | assumption) ?_ | refine AL.skip rfl ?_); simp (disch := omega) only [push_cast, ↓reduceIte, reduceCtorEq, Nat.reduceAdd, Nat.reduceMul, Nat.reduceLeDiff, Nat.reduceLT, Nat.reduceSub, Int.reduceNe, Int.reduceEq, Int.reduceLE, Int.reduceLT, Int.reduceToNat])))
    ((first | refine retA.ret (by rfl) ?_ | refine retA.normal (by rfl) ?_); simp (disch := omega) only [push_cast, ↓reduceIte, reduceCtorEq, Nat.reduceAdd, Nat.reduceMul, Nat.reduceLeDiff, Nat.reduceLT, Nat.reduceSub, Int.reduceNe, Int.reduceEq, Int.reduceLE, Int.reduceLT, Int.reduceToNat])
    obtain rfl : i = xs.length := by omega
    rw [List.take_length] at hN
    exact ⟨hF, hN⟩

end Go.Proofs.Ytbjipdmbdabniaa.Ax
