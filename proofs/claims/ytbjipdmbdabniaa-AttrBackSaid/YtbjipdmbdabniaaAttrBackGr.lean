/- Contracts of functions over the abstract machine. No conditions: lemmas alone. -/
import Derived.Test.YtbjipdmbdabniaaAttrBackLibD
import Derived.Test.YtbjipdmbdabniaaAttrBackPu2
import Derived.Test.YtbjipdmbdabniaaAttrBackIn
namespace Go.Proofs.Ytbjipdmbdabniaa.Ax
open Go Go.RowKit
set_option linter.unusedVariables false
set_option linter.unusedSimpArgs false
set_option maxRecDepth 100000
set_option maxHeartbeats 20000000
attribute [local irreducible] thenA blockA scopeA retA AL AW AD ADL AH clrK CallA apure aload bload appK ptrK fnK ares szOk planOk okOps
theorem raw_in {M : Mem} {v0 : Value} (h0 : In39 M v0) : ∃ a p c, v0 = .agg ⟨avL a p c⟩ ∧ Sl M p 1 (ints .u32 a.path) ∧ Sl M c 1 (ints .u32 a.comms) ∧ goodAV a ∧ a.path.length ≤ maxLen ∧ a.comms.length ≤ maxLen := by
  obtain ⟨acs, rfl, x1, b1, rfl, ⟨o, ho, rfl⟩, x2, b2, rfl, ⟨p, ps, rfl, hps, lps, hp⟩, x3, b3, rfl, ⟨hop, hh, rfl⟩, x4, b4, rfl, ⟨med, hm, rfl⟩, x5, b5, rfl, ⟨pref, hq, rfl⟩, x6, b6, rfl, ⟨hM, rfl⟩, x7, b7, rfl, ⟨hP, rfl⟩, x8, b8, rfl, ⟨c, cs, rfl, hcs, lcs, hc⟩, rfl⟩ := h0
  exact ⟨⟨o, ps, hop, med, pref, hM, hP, cs⟩, p, c, rfl, hp, hc, ⟨fun x h => wf_u32 (hps x h), wf_u32 hh, wf_u32 hm, wf_u32 hq, fun x h => wf_u32 (hcs x h)⟩, lps, lcs⟩
theorem great_spec (a : AV) (p c : Value) (M : Mem) (hp : Sl M p 1 (ints .u32 a.path)) (hc : Sl M c 1 (ints .u32 a.comms)) : CallA Try.prog 13 [.agg ⟨avL a p c⟩] M fun r M' => Fr M M' [] ∧ r = .bool (decide (a.path.length > 1000 ∨ a.comms.length > 1000)) := by
  have hsp := hp.isSl
  have hnp := hp.lnI
  have hsc := hc.isSl
  have hnc := hc.lnI
  unfold avL
  (refine CallA.of_body Try.func13 rfl (by rfl) ?_; simp only [Try.ntmps13, List.length_cons, List.length_nil, List.replicate, List.cons_append, List.nil_append, Nat.reduceSub, Nat.reduceAdd])
  by_cases c1 : a.path.length > 1000
  · have d : decide ((a.path.length : Int) > 1000) = true := decide_eq_true (by omega)
    (repeat (first | refine st ?_ | (refine And.intro (by omega) ?_) | (refine AL.guT rfl (by first | rfl | assumption) ?_) | ((first | refine AL.ld rfl ?_ | refine AL.bx rfl ?_ | refine AL.pu rfl ?_ | refine AL.guF rfl (by first | rfl | assumption) ?_ | refine AL.skip rfl ?_); simp (disch := omega) only [push_cast, ↓reduceIte, reduceCtorEq, Nat.reduceAdd, Nat.reduceMul, Nat.reduceLeDiff, Nat.reduceLT, Nat.reduceSub, Int.reduceNe, Int.reduceEq, Int.reduceLE, Int.reduceLT, Int.reduceToNat, hsp, hnp, d, memE, boxE])))
    ((first | refine retA.ret (by rfl) ?_ | refine retA.normal (by rfl) ?_); simp (disch := omega) only [push_cast, ↓reduceIte, reduceCtorEq, Nat.reduceAdd, Nat.reduceMul, Nat.reduceLeDiff, Nat.reduceLT, Nat.reduceSub, Int.reduceNe, Int.reduceEq, Int.reduceLE, Int.reduceLT, Int.reduceToNat])
    exact ⟨Fr.push M _, by simp [c1]⟩
  · have d : decide ((a.path.length : Int) > 1000) = false := decide_eq_false (by omega)
    by_cases c2 : a.comms.length > 1000
    · have d2 : decide ((a.comms.length : Int) > 1000) = true := decide_eq_true (by omega)
      (repeat (first | refine st ?_ | (refine And.intro (by omega) ?_) | (refine AL.guT rfl (by first | rfl | assumption) ?_) | ((first | refine AL.ld rfl ?_ | refine AL.bx rfl ?_ | refine AL.pu rfl ?_ | refine AL.guF rfl (by first | rfl | assumption) ?_ | refine AL.skip rfl ?_); simp (disch := omega) only [push_cast, ↓reduceIte, reduceCtorEq, Nat.reduceAdd, Nat.reduceMul, Nat.reduceLeDiff, Nat.reduceLT, Nat.reduceSub, Int.reduceNe, Int.reduceEq, Int.reduceLE, Int.reduceLT, Int.reduceToNat, hsp, hnp, hsc, hnc, d, d2, memE, boxE])))
      ((first | refine retA.ret (by rfl) ?_ | refine retA.normal (by rfl) ?_); simp (disch := omega) only [push_cast, ↓reduceIte, reduceCtorEq, Nat.reduceAdd, Nat.reduceMul, Nat.reduceLeDiff, Nat.reduceLT, Nat.reduceSub, Int.reduceNe, Int.reduceEq, Int.reduceLE, Int.reduceLT, Int.reduceToNat])
      exact ⟨Fr.push M _, by simp [c2]⟩
    · have d2 : decide ((a.comms.length : Int) > 1000) = false := decide_eq_false (by omega)
      (repeat (first | refine st ?_ | (refine And.intro (by omega) ?_) | (refine AL.guT rfl (by first | rfl | assumption) ?_) | ((first | refine AL.ld rfl ?_ | refine AL.bx rfl ?_ | refine AL.pu rfl ?_ | refine AL.guF rfl (by first | rfl | assumption) ?_ | refine AL.skip rfl ?_); simp (disch := omega) only [push_cast, ↓reduceIte, reduceCtorEq, Nat.reduceAdd, Nat.reduceMul, Nat.reduceLeDiff, Nat.reduceLT, Nat.reduceSub, Int.reduceNe, Int.reduceEq, Int.reduceLE, Int.reduceLT, Int.reduceToNat, hsp, hnp, hsc, hnc, d, d2, memE, boxE])))
      ((first | refine retA.ret (by rfl) ?_ | refine retA.normal (by rfl) ?_); simp (disch := omega) only [push_cast, ↓reduceIte, reduceCtorEq, Nat.reduceAdd, Nat.reduceMul, Nat.reduceLeDiff, Nat.reduceLT, Nat.reduceSub, Int.reduceNe, Int.reduceEq, Int.reduceLE, Int.reduceLT, Int.reduceToNat])
      exact ⟨Fr.push M _, by rw [decide_eq_false]; rintro (h | h); exact c1 h; exact c2 h⟩
end Go.Proofs.Ytbjipdmbdabniaa.Ax
