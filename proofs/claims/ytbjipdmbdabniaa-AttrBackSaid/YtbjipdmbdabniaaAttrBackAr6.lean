/- Contracts of functions over the abstract machine. No conditions: lemmas alone. -/
import Derived.Test.YtbjipdmbdabniaaAttrBackLibD
import Derived.Test.YtbjipdmbdabniaaAttrBackAr4
import Derived.Test.YtbjipdmbdabniaaAttrBackL1
namespace Go.Proofs.Ytbjipdmbdabniaa.Ax
open Go Go.RowKit
set_option linter.unusedVariables false
set_option linter.unusedSimpArgs false
set_option maxRecDepth 100000
set_option maxHeartbeats 20000000
attribute [local irreducible] thenA blockA scopeA retA AL AW AD ADL AH clrK CallA apure aload bload appK ptrK fnK ares szOk planOk okOps
def sameP (a b : AV) : Bool := decide (a.origin = b.origin) && (decide (a.hop = b.hop) && (decide (a.med = b.med) && (decide (a.pref = b.pref) && ((a.hasMed == b.hasMed) && ((a.hasPref == b.hasPref) && (decide (a.path = b.path) && decide (a.comms = b.comms)))))))
theorem same_spec (v w : Value) (a b : AV) (M : Mem) (ha : AVval M v a) (hb : AVval M w b) (h1 : a.path.length ≤ 1000000) (h2 : a.comms.length ≤ 1000000) : CallA Try.prog 11 [v, w] M fun r M' => Fr M M' [] ∧ r = .bool (sameP a b) := by
  obtain ⟨p, c, rfl, hp, hc⟩ := ha
  obtain ⟨q, dd, rfl, hq, hd⟩ := hb
  have l2 : ∀ (ty : TypeId) (X Y : Blk) (j : Nat), aload Try.prog ty (M ++ [X] ++ [Y]) M.length j = bload Try.prog ty X.cells j := fun ty X Y j => ((At.push M X).keep (Fr.push _ Y) (by simp)).ld
  have l3 : ∀ (ty : TypeId) (X Y : Blk) (j : Nat), aload Try.prog ty (M ++ [X] ++ [Y]) (M ++ [X]).length j = bload Try.prog ty Y.cells j := fun ty X Y j => (At.push (M ++ [X]) Y).ld
  have hfr : ∀ X Y : Blk, Fr M (M ++ [X] ++ [Y]) [] := fun X Y => (Fr.push M X).tr (Fr.push _ Y)
  have beq : ∀ x y : Bool, abin2 Try.prog .eql 4 (.bool x) (.bool y) = some (.bool (x == y)) := fun x y => by
    have hu : Try.prog.underlying 4 = some .bool := by kernel_rfl
    simp only [abin2, isShift, hu]
  (refine CallA.of_body Try.func11 rfl (by rfl) ?_; simp only [Try.ntmps11, List.length_cons, List.length_nil, List.replicate, List.cons_append, List.nil_append, Nat.reduceSub, Nat.reduceAdd])
  by_cases horigin : a.origin = b.origin
  rotate_left
  · have d : decide (a.origin = b.origin) = false := decide_eq_false horigin
    (repeat (first | refine st ?_ | (refine And.intro (by omega) ?_) | (refine AL.guT rfl (by first | rfl | assumption) ?_) | ((first | refine AL.ld rfl ?_ | refine AL.bx rfl ?_ | refine AL.ca rfl ?_ | refine AL.pu rfl ?_ | refine AL.guF rfl (by first | rfl | assumption) ?_ | refine AL.skip rfl ?_); simp (disch := omega) only [push_cast, ↓reduceIte, reduceCtorEq, Nat.reduceAdd, Nat.reduceMul, Nat.reduceLeDiff, Nat.reduceLT, Nat.reduceSub, Int.reduceNe, Int.reduceEq, Int.reduceLE, Int.reduceLT, Int.reduceToNat, l2, l3, d, beq])))
    ((first | refine retA.ret (by rfl) ?_ | refine retA.normal (by rfl) ?_); simp (disch := omega) only [push_cast, ↓reduceIte, reduceCtorEq, Nat.reduceAdd, Nat.reduceMul, Nat.reduceLeDiff, Nat.reduceLT, Nat.reduceSub, Int.reduceNe, Int.reduceEq, Int.reduceLE, Int.reduceLT, Int.reduceToNat])
    exact ⟨hfr _ _, by simp [sameP, horigin]⟩
  have dorigin : decide (b.origin = b.origin) = true := decide_eq_true rfl
  by_cases hhop : a.hop = b.hop
  rotate_left
  · have d : decide (a.hop = b.hop) = false := decide_eq_false hhop
    (repeat (first | refine st ?_ | (refine And.intro (by omega) ?_) | (refine AL.guT rfl (by first | rfl | assumption) ?_) | ((first | refine AL.ld rfl ?_ | refine AL.bx rfl ?_ | refine AL.ca rfl ?_ | refine AL.pu rfl ?_ | refine AL.guF rfl (by first | rfl | assumption) ?_ | refine AL.skip rfl ?_); simp (disch := omega) only [push_cast, ↓reduceIte, reduceCtorEq, Nat.reduceAdd, Nat.reduceMul, Nat.reduceLeDiff, Nat.reduceLT, Nat.reduceSub, Int.reduceNe, Int.reduceEq, Int.reduceLE, Int.reduceLT, Int.reduceToNat, l2, l3, horigin, dorigin, d, beq])))
    ((first | refine retA.ret (by rfl) ?_ | refine retA.normal (by rfl) ?_); simp (disch := omega) only [push_cast, ↓reduceIte, reduceCtorEq, Nat.reduceAdd, Nat.reduceMul, Nat.reduceLeDiff, Nat.reduceLT, Nat.reduceSub, Int.reduceNe, Int.reduceEq, Int.reduceLE, Int.reduceLT, Int.reduceToNat])
    exact ⟨hfr _ _, by simp [sameP, hhop]⟩
  have dhop : decide (b.hop = b.hop) = true := decide_eq_true rfl
  by_cases hmed : a.med = b.med
  rotate_left
  · have d : decide (a.med = b.med) = false := decide_eq_false hmed
    (repeat (first | refine st ?_ | (refine And.intro (by omega) ?_) | (refine AL.guT rfl (by first | rfl | assumption) ?_) | ((first | refine AL.ld rfl ?_ | refine AL.bx rfl ?_ | refine AL.ca rfl ?_ | refine AL.pu rfl ?_ | refine AL.guF rfl (by first | rfl | assumption) ?_ | refine AL.skip rfl ?_); simp (disch := omega) only [push_cast, ↓reduceIte, reduceCtorEq, Nat.reduceAdd, Nat.reduceMul, Nat.reduceLeDiff, Nat.reduceLT, Nat.reduceSub, Int.reduceNe, Int.reduceEq, Int.reduceLE, Int.reduceLT, Int.reduceToNat, l2, l3, horigin, dorigin, hhop, dhop, d, beq])))
    ((first | refine retA.ret (by rfl) ?_ | refine retA.normal (by rfl) ?_); simp (disch := omega) only [push_cast, ↓reduceIte, reduceCtorEq, Nat.reduceAdd, Nat.reduceMul, Nat.reduceLeDiff, Nat.reduceLT, Nat.reduceSub, Int.reduceNe, Int.reduceEq, Int.reduceLE, Int.reduceLT, Int.reduceToNat])
    exact ⟨hfr _ _, by simp [sameP, hmed]⟩
  have dmed : decide (b.med = b.med) = true := decide_eq_true rfl
  by_cases hpref : a.pref = b.pref
  rotate_left
  · have d : decide (a.pref = b.pref) = false := decide_eq_false hpref
    (repeat (first | refine st ?_ | (refine And.intro (by omega) ?_) | (refine AL.guT rfl (by first | rfl | assumption) ?_) | ((first | refine AL.ld rfl ?_ | refine AL.bx rfl ?_ | refine AL.ca rfl ?_ | refine AL.pu rfl ?_ | refine AL.guF rfl (by first | rfl | assumption) ?_ | refine AL.skip rfl ?_); simp (disch := omega) only [push_cast, ↓reduceIte, reduceCtorEq, Nat.reduceAdd, Nat.reduceMul, Nat.reduceLeDiff, Nat.reduceLT, Nat.reduceSub, Int.reduceNe, Int.reduceEq, Int.reduceLE, Int.reduceLT, Int.reduceToNat, l2, l3, horigin, dorigin, hhop, dhop, hmed, dmed, d, beq])))
    ((first | refine retA.ret (by rfl) ?_ | refine retA.normal (by rfl) ?_); simp (disch := omega) only [push_cast, ↓reduceIte, reduceCtorEq, Nat.reduceAdd, Nat.reduceMul, Nat.reduceLeDiff, Nat.reduceLT, Nat.reduceSub, Int.reduceNe, Int.reduceEq, Int.reduceLE, Int.reduceLT, Int.reduceToNat])
    exact ⟨hfr _ _, by simp [sameP, hpref]⟩
  have dpref : decide (b.pref = b.pref) = true := decide_eq_true rfl
  by_cases hm : (a.hasMed == b.hasMed) = true
  rotate_left
  · have hm' : (a.hasMed == b.hasMed) = false := by simpa using hm
    (repeat (first | refine st ?_ | (refine And.intro (by omega) ?_) | (refine AL.guT rfl (by first | rfl | assumption) ?_) | ((first | refine AL.ld rfl ?_ | refine AL.bx rfl ?_ | refine AL.ca rfl ?_ | refine AL.pu rfl ?_ | refine AL.guF rfl (by first | rfl | assumption) ?_ | refine AL.skip rfl ?_); simp (disch := omega) only [push_cast, ↓reduceIte, reduceCtorEq, Nat.reduceAdd, Nat.reduceMul, Nat.reduceLeDiff, Nat.reduceLT, Nat.reduceSub, Int.reduceNe, Int.reduceEq, Int.reduceLE, Int.reduceLT, Int.reduceToNat, l2, l3, horigin, dorigin, hhop, dhop, hmed, dmed, hpref, dpref, hm', beq])))
    ((first | refine retA.ret (by rfl) ?_ | refine retA.normal (by rfl) ?_); simp (disch := omega) only [push_cast, ↓reduceIte, reduceCtorEq, Nat.reduceAdd, Nat.reduceMul, Nat.reduceLeDiff, Nat.reduceLT, Nat.reduceSub, Int.reduceNe, Int.reduceEq, Int.reduceLE, Int.reduceLT, Int.reduceToNat])
    exact ⟨hfr _ _, by simp [sameP, hm']⟩
  by_cases hr : (a.hasPref == b.hasPref) = true
  rotate_left
  · have hr' : (a.hasPref == b.hasPref) = false := by simpa using hr
    (repeat (first | refine st ?_ | (refine And.intro (by omega) ?_) | (refine AL.guT rfl (by first | rfl | assumption) ?_) | ((first | refine AL.ld rfl ?_ | refine AL.bx rfl ?_ | refine AL.ca rfl ?_ | refine AL.pu rfl ?_ | refine AL.guF rfl (by first | rfl | assumption) ?_ | refine AL.skip rfl ?_); simp (disch := omega) only [push_cast, ↓reduceIte, reduceCtorEq, Nat.reduceAdd, Nat.reduceMul, Nat.reduceLeDiff, Nat.reduceLT, Nat.reduceSub, Int.reduceNe, Int.reduceEq, Int.reduceLE, Int.reduceLT, Int.reduceToNat, l2, l3, horigin, dorigin, hhop, dhop, hmed, dmed, hpref, dpref, hm, hr', beq])))
    ((first | refine retA.ret (by rfl) ?_ | refine retA.normal (by rfl) ?_); simp (disch := omega) only [push_cast, ↓reduceIte, reduceCtorEq, Nat.reduceAdd, Nat.reduceMul, Nat.reduceLeDiff, Nat.reduceLT, Nat.reduceSub, Int.reduceNe, Int.reduceEq, Int.reduceLE, Int.reduceLT, Int.reduceToNat])
    exact ⟨hfr _ _, by simp [sameP, hr']⟩
  (repeat (first | refine st ?_ | (refine And.intro (by omega) ?_) | (refine AL.guT rfl (by first | rfl | assumption) ?_) | ((first | refine AL.ld rfl ?_ | refine AL.bx rfl ?_ | refine AL.ca rfl ?_ | refine AL.pu rfl ?_ | refine AL.guF rfl (by first | rfl | assumption) ?_ | refine AL.skip rfl ?_); simp (disch := omega) only [push_cast, ↓reduceIte, reduceCtorEq, Nat.reduceAdd, Nat.reduceMul, Nat.reduceLeDiff, Nat.reduceLT, Nat.reduceSub, Int.reduceNe, Int.reduceEq, Int.reduceLE, Int.reduceLT, Int.reduceToNat, l2, l3, horigin, dorigin, hhop, dhop, hmed, dmed, hpref, dpref, hm, hr, beq])))
  refine (nums_spec p q _ _ _ (hp.keep (hfr _ _) (by simp)) (hq.keep (hfr _ _) (by simp)) (by omega)).mono ?_
  rintro r M1 ⟨rfl, rfl⟩
  by_cases hpq : a.path = b.path
  rotate_left
  · have d : decide (a.path = b.path) = false := decide_eq_false hpq
    (repeat (first | refine st ?_ | (refine And.intro (by omega) ?_) | (refine AL.guT rfl (by first | rfl | assumption) ?_) | ((first | refine AL.ld rfl ?_ | refine AL.bx rfl ?_ | refine AL.ca rfl ?_ | refine AL.pu rfl ?_ | refine AL.guF rfl (by first | rfl | assumption) ?_ | refine AL.skip rfl ?_); simp (disch := omega) only [push_cast, ↓reduceIte, reduceCtorEq, Nat.reduceAdd, Nat.reduceMul, Nat.reduceLeDiff, Nat.reduceLT, Nat.reduceSub, Int.reduceNe, Int.reduceEq, Int.reduceLE, Int.reduceLT, Int.reduceToNat, l2, l3, d])))
    ((first | refine retA.ret (by rfl) ?_ | refine retA.normal (by rfl) ?_); simp (disch := omega) only [push_cast, ↓reduceIte, reduceCtorEq, Nat.reduceAdd, Nat.reduceMul, Nat.reduceLeDiff, Nat.reduceLT, Nat.reduceSub, Int.reduceNe, Int.reduceEq, Int.reduceLE, Int.reduceLT, Int.reduceToNat])
    exact ⟨hfr _ _, by simp [sameP, hpq]⟩
  have d : decide (a.path = b.path) = true := decide_eq_true hpq
  (repeat (first | refine st ?_ | (refine And.intro (by omega) ?_) | (refine AL.guT rfl (by first | rfl | assumption) ?_) | ((first | refine AL.ld rfl ?_ | refine AL.bx rfl ?_ | refine AL.ca rfl ?_ | refine AL.pu rfl ?_ | refine AL.guF rfl (by first | rfl | assumption) ?_ | refine AL.skip rfl ?_); simp (disch := omega) only [push_cast, ↓reduceIte, reduceCtorEq, Nat.reduceAdd, Nat.reduceMul, Nat.reduceLeDiff, Nat.reduceLT, Nat.reduceSub, Int.reduceNe, Int.reduceEq, Int.reduceLE, Int.reduceLT, Int.reduceToNat, l2, l3, d])))
  refine (nums_spec c dd _ _ _ (hc.keep (hfr _ _) (by simp)) (hd.keep (hfr _ _) (by simp)) (by omega)).mono ?_
  rintro r M1 ⟨rfl, rfl⟩
  (repeat (first | refine st ?_ | (refine And.intro (by omega) ?_) | (refine AL.guT rfl (by first | rfl | assumption) ?_) | ((first | refine AL.ld rfl ?_ | refine AL.bx rfl ?_ | refine AL.ca rfl ?_ | refine AL.pu rfl ?_ | refine AL.guF rfl (by first | rfl | assumption) ?_ | refine AL.skip rfl ?_); simp (disch := omega) only [push_cast, ↓reduceIte, reduceCtorEq, Nat.reduceAdd, Nat.reduceMul, Nat.reduceLeDiff, Nat.reduceLT, Nat.reduceSub, Int.reduceNe, Int.reduceEq, Int.reduceLE, Int.reduceLT, Int.reduceToNat])))
  ((first | refine retA.ret (by rfl) ?_ | refine retA.normal (by rfl) ?_); simp (disch := omega) only [push_cast, ↓reduceIte, reduceCtorEq, Nat.reduceAdd, Nat.reduceMul, Nat.reduceLeDiff, Nat.reduceLT, Nat.reduceSub, Int.reduceNe, Int.reduceEq, Int.reduceLE, Int.reduceLT, Int.reduceToNat])
  refine ⟨hfr _ _, ?_⟩
  have e1 : a.hasMed = b.hasMed := by simpa using hm
  have e2 : a.hasPref = b.hasPref := by simpa using hr
  simp [sameP, horigin, hhop, hmed, hpref, e1, e2, hpq]

end Go.Proofs.Ytbjipdmbdabniaa.Ax
