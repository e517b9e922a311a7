/- Contracts of functions over the abstract machine. No conditions: lemmas alone. -/
import Derived.Test.YtbjipdmbdabniaaAttrBackLibD
import Derived.Test.YtbjipdmbdabniaaAttrBackAt0
namespace Go.Proofs.Ytbjipdmbdabniaa.Ax
open Go Go.RowKit
set_option linter.unusedVariables false
set_option linter.unusedSimpArgs false
set_option maxRecDepth 100000
set_option maxHeartbeats 20000000
attribute [local irreducible] thenA blockA scopeA retA AL AW AD ADL AH clrK CallA apure aload bload appK ptrK fnK ares szOk planOk okOps
theorem flags_spec (k : Int) (M : Mem) : CallA Try.prog 20 [.int .u8 k] M fun r M' => M' = M ∧ r = .int .u8 (flagsP k) := by
  (refine CallA.of_body Try.func20 rfl (by rfl) ?_; simp only [Try.ntmps20, List.length_cons, List.length_nil, List.replicate, List.cons_append, List.nil_append, Nat.reduceSub, Nat.reduceAdd])
  (repeat' (first | refine st ?_ | (refine And.intro (by omega) ?_) | (refine AW.condT rfl rfl (by first | rfl | assumption) ?_) | (refine AW.condF rfl rfl (by first | rfl | assumption) ?_) | ((first | refine AL.pu rfl ?_); simp (disch := omega) only [push_cast, ↓reduceIte, reduceCtorEq, Nat.reduceAdd, Nat.reduceMul, Nat.reduceLeDiff, Nat.reduceLT, Nat.reduceSub, Int.reduceNe, Int.reduceEq, Int.reduceLE, Int.reduceLT, Int.reduceToNat]) | (refine AL.gu rfl (fun h => ?_) (fun h => ?_) <;> try (simp only [Bool.not_eq_true', Bool.not_eq_false', Bool.not_true, Bool.not_false, decide_eq_true_eq, decide_eq_false_iff_not, Classical.not_not, Int.not_lt, Int.not_le, gt_iff_lt, ge_iff_le, beq_iff_eq] at h)) | (refine AW.condS rfl rfl (fun h => ?_) (fun h => ?_) <;> try (simp only [Bool.not_eq_true', Bool.not_eq_false', Bool.not_true, Bool.not_false, decide_eq_true_eq, decide_eq_false_iff_not, Classical.not_not, Int.not_lt, Int.not_le, gt_iff_lt, ge_iff_le, beq_iff_eq] at h)) | ((first | refine retA.ret (by rfl) ?_ | refine retA.normal (by rfl) ?_); simp (disch := omega) only [push_cast, ↓reduceIte, reduceCtorEq, Nat.reduceAdd, Nat.reduceMul, Nat.reduceLeDiff, Nat.reduceLT, Nat.reduceSub, Int.reduceNe, Int.reduceEq, Int.reduceLE, Int.reduceLT, Int.reduceToNat])))
  all_goals (refine congrArg _ ?_; unfold flagsP; repeat' split)
  all_goals omega
theorem length_spec (k n : Int) (M : Mem) (hn : 0 ≤ n) : CallA Try.prog 33 [.int .u8 k, .int .i64 n] M fun r M' => M' = M ∧ r = .bool (lenP k n) := by
  (refine CallA.of_body Try.func33 rfl (by rfl) ?_; simp only [Try.ntmps33, List.length_cons, List.length_nil, List.replicate, List.cons_append, List.nil_append, Nat.reduceSub, Nat.reduceAdd])
  (repeat' (first | refine st ?_ | (refine And.intro (by omega) ?_) | (refine AW.condT rfl rfl (by first | rfl | assumption) ?_) | (refine AW.condF rfl rfl (by first | rfl | assumption) ?_) | ((first | refine AL.pu rfl ?_); simp (disch := omega) only [push_cast, ↓reduceIte, reduceCtorEq, Nat.reduceAdd, Nat.reduceMul, Nat.reduceLeDiff, Nat.reduceLT, Nat.reduceSub, Int.reduceNe, Int.reduceEq, Int.reduceLE, Int.reduceLT, Int.reduceToNat, tmod_in]) | (refine AL.gu rfl (fun h => ?_) (fun h => ?_) <;> try (simp only [Bool.not_eq_true', Bool.not_eq_false', Bool.not_true, Bool.not_false, decide_eq_true_eq, decide_eq_false_iff_not, Classical.not_not, Int.not_lt, Int.not_le, gt_iff_lt, ge_iff_le, beq_iff_eq] at h)) | (refine AW.condS rfl rfl (fun h => ?_) (fun h => ?_) <;> try (simp only [Bool.not_eq_true', Bool.not_eq_false', Bool.not_true, Bool.not_false, decide_eq_true_eq, decide_eq_false_iff_not, Classical.not_not, Int.not_lt, Int.not_le, gt_iff_lt, ge_iff_le, beq_iff_eq] at h)) | ((first | refine retA.ret (by rfl) ?_ | refine retA.normal (by rfl) ?_); simp (disch := omega) only [push_cast, ↓reduceIte, reduceCtorEq, Nat.reduceAdd, Nat.reduceMul, Nat.reduceLeDiff, Nat.reduceLT, Nat.reduceSub, Int.reduceNe, Int.reduceEq, Int.reduceLE, Int.reduceLT, Int.reduceToNat, tmod_in])))
  all_goals (refine congrArg _ ?_; unfold lenP; repeat' split)
  all_goals first | rfl | omega

end Go.Proofs.Ytbjipdmbdabniaa.Ax
