/- Contracts of functions over the abstract machine. No conditions: lemmas alone. -/
import Derived.Test.YtbjipdmbdabniaaAttrBackLibD
import Derived.Test.YtbjipdmbdabniaaAttrBackAr1
namespace Go.Proofs.Ytbjipdmbdabniaa.Ax
open Go Go.RowKit
set_option linter.unusedVariables false
set_option linter.unusedSimpArgs false
set_option maxRecDepth 100000
set_option maxHeartbeats 20000000
attribute [local irreducible] thenA blockA scopeA retA AL AW AD ADL AH clrK CallA apure aload bload appK ptrK fnK ares szOk planOk okOps
theorem nums_spec (v w : Value) (xs ys : List Int) (M : Mem) (hv : Sl M v 1 (ints .u32 xs)) (hw : Sl M w 1 (ints .u32 ys)) (hl : xs.length ≤ 1000000000) : CallA Try.prog 24 [v, w] M fun r M' => M' = M ∧ r = .bool (decide (xs = ys)) := by
  have hs := hv.isSl
  have hn := hv.lnI
  have hs2 := hw.isSl
  have hn2 := hw.lnI
  (refine CallA.of_body Try.func24 rfl (by rfl) ?_; simp only [Try.ntmps24, List.length_cons, List.length_nil, List.replicate, List.cons_append, List.nil_append, Nat.reduceSub, Nat.reduceAdd])
  by_cases hlen : xs.length = ys.length
  · have d0 : decide ((xs.length : Int) = ys.length) = true := decide_eq_true (by omega)
    (repeat (first | refine st ?_ | refine ADL.hd rfl ?_ | refine blockA.here ?_ | refine blockA.exit rfl ?_ | (refine And.intro (by omega) ?_) | (refine AW.condT rfl rfl (by first | rfl | assumption) ?_) | (refine AW.condF rfl rfl (by first | rfl | assumption) ?_) | refine AW.dr (id := 6) (by rfl) [0, 1, 2, 3, 4, 5, 6, 7, 8] (by kernel_rfl) (by kernel_rfl) ?_ | ((first | refine AL.ld rfl ?_ | refine AL.pu rfl ?_ | refine AH.ld rfl ?_ | refine AH.pu rfl rfl ?_); simp (disch := omega) only [push_cast, ↓reduceIte, reduceCtorEq, Nat.reduceAdd, Nat.reduceMul, Nat.reduceLeDiff, Nat.reduceLT, Nat.reduceSub, Int.reduceNe, Int.reduceEq, Int.reduceLE, Int.reduceLT, Int.reduceToNat, hs, hn, hs2, hn2, d0, Bool.not_true])))
    refine AW.loopF [4, 5, 13, 14, 15, 16, 17, 18, 19, 20, 21, 22, 23, 24, 25] (fun m g M' => ∃ i : Nat, g 13 = .int .i64 i ∧ i + m = xs.length ∧ M' = M ∧ ∀ q, q < i → xs.getD q 0 = ys.getD q 0) xs.length ?_ ?_
    · exact ⟨0, rfl, by omega, rfl, fun q h => by omega⟩
    rintro m g M1 ⟨i, h13, hi, rfl, he⟩
    simp (disch := omega) only [push_cast, ↓reduceIte, reduceCtorEq, Nat.reduceAdd, Nat.reduceMul, Nat.reduceLeDiff, Nat.reduceLT, Nat.reduceSub, Int.reduceNe, Int.reduceEq, Int.reduceLE, Int.reduceLT, Int.reduceToNat, h13]
    (repeat (first | refine st ?_ | refine ADL.hd rfl ?_ | refine blockA.here ?_ | refine blockA.exit rfl ?_ | (refine And.intro (by omega) ?_) | (refine AW.condT rfl rfl (by first | rfl | assumption) ?_) | (refine AW.condF rfl rfl (by first | rfl | assumption) ?_) | refine AW.dr (id := 6) (by rfl) [0, 1, 2, 3, 4, 5, 6, 7, 8] (by kernel_rfl) (by kernel_rfl) ?_ | ((first | refine AL.ld rfl ?_ | refine AL.pu rfl ?_ | refine AH.ld rfl ?_ | refine AH.pu rfl rfl ?_); simp (disch := omega) only [push_cast, ↓reduceIte, reduceCtorEq, Nat.reduceAdd, Nat.reduceMul, Nat.reduceLeDiff, Nat.reduceLT, Nat.reduceSub, Int.reduceNe, Int.reduceEq, Int.reduceLE, Int.reduceLT, Int.reduceToNat])))
    ((first | refine AL.gu rfl (fun hlt => ?_) (fun hlt => ?_) | refine AW.condS rfl rfl (fun hlt => ?_) (fun hlt => ?_)) <;> (try (have hlt' := hlt; simp only [Bool.not_eq_true', Bool.not_eq_false', Bool.not_true, Bool.not_false, decide_eq_true_eq, decide_eq_false_iff_not, Classical.not_not, Int.not_lt, Int.not_le, gt_iff_lt, ge_iff_le, beq_iff_eq] at hlt')))
    · have l1 := hv.ldN (P := Try.prog) (ty := 25) (i := i) (by kernel_rfl) (by omega)
      have l2 := hw.ldN (P := Try.prog) (ty := 25) (i := i) (by kernel_rfl) (by omega)
      (repeat (first | refine st ?_ | refine ADL.hd rfl ?_ | refine blockA.here ?_ | refine blockA.exit rfl ?_ | (refine And.intro (by omega) ?_) | (refine AW.condT rfl rfl (by first | rfl | assumption) ?_) | (refine AW.condF rfl rfl (by first | rfl | assumption) ?_) | refine AW.dr (id := 6) (by rfl) [0, 1, 2, 3, 4, 5, 6, 7, 8] (by kernel_rfl) (by kernel_rfl) ?_ | ((first | refine AL.ld rfl ?_ | refine AL.pu rfl ?_ | refine AH.ld rfl ?_ | refine AH.pu rfl rfl ?_); simp (disch := omega) only [push_cast, ↓reduceIte, reduceCtorEq, Nat.reduceAdd, Nat.reduceMul, Nat.reduceLeDiff, Nat.reduceLT, Nat.reduceSub, Int.reduceNe, Int.reduceEq, Int.reduceLE, Int.reduceLT, Int.reduceToNat, hs, hn, hs2, hn2, l1, l2, Int.toNat_natCast])))
      ((first | refine AL.gu rfl (fun hne => ?_) (fun hne => ?_) | refine AW.condS rfl rfl (fun hne => ?_) (fun hne => ?_)) <;> (try (have hne' := hne; simp only [Bool.not_eq_true', Bool.not_eq_false', Bool.not_true, Bool.not_false, decide_eq_true_eq, decide_eq_false_iff_not, Classical.not_not, Int.not_lt, Int.not_le, gt_iff_lt, ge_iff_le, beq_iff_eq] at hne')))
      · (repeat (first | refine st ?_ | refine ADL.hd rfl ?_ | refine blockA.here ?_ | refine blockA.exit rfl ?_ | (refine And.intro (by omega) ?_) | (refine AW.condT rfl rfl (by first | rfl | assumption) ?_) | (refine AW.condF rfl rfl (by first | rfl | assumption) ?_) | refine AW.dr (id := 6) (by rfl) [0, 1, 2, 3, 4, 5, 6, 7, 8] (by kernel_rfl) (by kernel_rfl) ?_ | ((first | refine AL.ld rfl ?_ | refine AL.pu rfl ?_ | refine AH.ld rfl ?_ | refine AH.pu rfl rfl ?_); simp (disch := omega) only [push_cast, ↓reduceIte, reduceCtorEq, Nat.reduceAdd, Nat.reduceMul, Nat.reduceLeDiff, Nat.reduceLT, Nat.reduceSub, Int.reduceNe, Int.reduceEq, Int.reduceLE, Int.reduceLT, Int.reduceToNat])))
        ((first | refine retA.ret (by rfl) ?_ | refine retA.normal (by rfl) ?_); simp (disch := omega) only [push_cast, ↓reduceIte, reduceCtorEq, Nat.reduceAdd, Nat.reduceMul, Nat.reduceLeDiff, Nat.reduceLT, Nat.reduceSub, Int.reduceNe, Int.reduceEq, Int.reduceLE, Int.reduceLT, Int.reduceToNat])
        have hx : xs ≠ ys := fun e => hne' (by rw [e])
        simp [hx]
      · (repeat (first | refine st ?_ | refine ADL.hd rfl ?_ | refine blockA.here ?_ | refine blockA.exit rfl ?_ | (refine And.intro (by omega) ?_) | (refine AW.condT rfl rfl (by first | rfl | assumption) ?_) | (refine AW.condF rfl rfl (by first | rfl | assumption) ?_) | refine AW.dr (id := 6) (by rfl) [0, 1, 2, 3, 4, 5, 6, 7, 8] (by kernel_rfl) (by kernel_rfl) ?_ | ((first | refine AL.ld rfl ?_ | refine AL.pu rfl ?_ | refine AH.ld rfl ?_ | refine AH.pu rfl rfl ?_); simp (disch := omega) only [push_cast, ↓reduceIte, reduceCtorEq, Nat.reduceAdd, Nat.reduceMul, Nat.reduceLeDiff, Nat.reduceLT, Nat.reduceSub, Int.reduceNe, Int.reduceEq, Int.reduceLE, Int.reduceLT, Int.reduceToNat, w_i64])))
        refine ⟨rfl, m - 1, by omega, i + 1, rfl, by omega, rfl, fun q hq => ?_⟩
        by_cases e : q = i
        · rw [e]; exact hne'
        · exact he q (by omega)
    · (repeat (first | refine st ?_ | refine ADL.hd rfl ?_ | refine blockA.here ?_ | refine blockA.exit rfl ?_ | (refine And.intro (by omega) ?_) | (refine AW.condT rfl rfl (by first | rfl | assumption) ?_) | (refine AW.condF rfl rfl (by first | rfl | assumption) ?_) | refine AW.dr (id := 6) (by rfl) [0, 1, 2, 3, 4, 5, 6, 7, 8] (by kernel_rfl) (by kernel_rfl) ?_ | ((first | refine AL.ld rfl ?_ | refine AL.pu rfl ?_ | refine AH.ld rfl ?_ | refine AH.pu rfl rfl ?_); simp (disch := omega) only [push_cast, ↓reduceIte, reduceCtorEq, Nat.reduceAdd, Nat.reduceMul, Nat.reduceLeDiff, Nat.reduceLT, Nat.reduceSub, Int.reduceNe, Int.reduceEq, Int.reduceLE, Int.reduceLT, Int.reduceToNat])))
      ((first | refine retA.ret (by rfl) ?_ | refine retA.normal (by rfl) ?_); simp (disch := omega) only [push_cast, ↓reduceIte, reduceCtorEq, Nat.reduceAdd, Nat.reduceMul, Nat.reduceLeDiff, Nat.reduceLT, Nat.reduceSub, Int.reduceNe, Int.reduceEq, Int.reduceLE, Int.reduceLT, Int.reduceToNat])
      have hx : xs = ys := by
        apply List.ext_getElem hlen
        intro q h1 h2
        have := he q (by omega)
        rwa [getD_lt h1, getD_lt h2] at this
      simp [hx]
  · have d0 : decide ((xs.length : Int) = ys.length) = false := decide_eq_false (by omega)
    (repeat (first | refine st ?_ | refine ADL.hd rfl ?_ | refine blockA.here ?_ | refine blockA.exit rfl ?_ | (refine And.intro (by omega) ?_) | (refine AW.condT rfl rfl (by first | rfl | assumption) ?_) | (refine AW.condF rfl rfl (by first | rfl | assumption) ?_) | refine AW.dr (id := 6) (by rfl) [0, 1, 2, 3, 4, 5, 6, 7, 8] (by kernel_rfl) (by kernel_rfl) ?_ | ((first | refine AL.ld rfl ?_ | refine AL.pu rfl ?_ | refine AH.ld rfl ?_ | refine AH.pu rfl rfl ?_); simp (disch := omega) only [push_cast, ↓reduceIte, reduceCtorEq, Nat.reduceAdd, Nat.reduceMul, Nat.reduceLeDiff, Nat.reduceLT, Nat.reduceSub, Int.reduceNe, Int.reduceEq, Int.reduceLE, Int.reduceLT, Int.reduceToNat, hs, hn, hs2, hn2, d0, Bool.not_false])))
    ((first | refine retA.ret (by rfl) ?_ | refine retA.normal (by rfl) ?_); simp (disch := omega) only [push_cast, ↓reduceIte, reduceCtorEq, Nat.reduceAdd, Nat.reduceMul, Nat.reduceLeDiff, Nat.reduceLT, Nat.reduceSub, Int.reduceNe, Int.reduceEq, Int.reduceLE, Int.reduceLT, Int.reduceToNat])
    have hx : xs ≠ ys := fun e => hlen (by rw [e])
    simp [hx]
end Go.Proofs.Ytbjipdmbdabniaa.Ax
