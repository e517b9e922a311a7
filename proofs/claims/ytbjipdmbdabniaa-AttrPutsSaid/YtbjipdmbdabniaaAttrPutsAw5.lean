/- Contracts of functions over the abstract machine. No conditions: lemmas alone. -/
import Derived.Test.YtbjipdmbdabniaaAttrPutsLibD
import Derived.Test.YtbjipdmbdabniaaAttrPutsPu3
import Derived.Test.YtbjipdmbdabniaaAttrPutsPu4
import Derived.Test.YtbjipdmbdabniaaAttrPutsAw1
import Derived.Test.YtbjipdmbdabniaaAttrPutsAr5
import Derived.Test.YtbjipdmbdabniaaAttrPutsGr
import Derived.Test.YtbjipdmbdabniaaAttrPutsPb
namespace Go.Proofs.Ytbjipdmbdabniaa.Ax
open Go Go.RowKit
set_option linter.unusedVariables false
set_option linter.unusedSimpArgs false
set_option maxRecDepth 100000
set_option maxHeartbeats 20000000
attribute [local irreducible] thenA blockA scopeA retA AL AW AD ADL AH clrK CallA apure aload bload appK ptrK fnK ares szOk planOk okOps
theorem attrPuts_in (M : Mem) (v0 : Value) (h0 : In39 M v0) : CallA Try.prog 6 [v0] M fun r _ => r = .bool true := by
  obtain ⟨a, p, c, rfl, hp, hc, ga, hpl, hcl⟩ := raw_in h0
  have op := isSl_one hp.isSl
  have oc := isSl_one hc.isSl
  simp only [Value.oneCell'] at op oc
  unfold avL
  (refine CallA.of_body Try.func6 rfl (by rfl) ?_; simp only [Try.ntmps6, List.length_cons, List.length_nil, List.replicate, List.cons_append, List.nil_append, Nat.reduceSub, Nat.reduceAdd])
  (repeat (first | refine st ?_ | refine ADL.hd rfl ?_ | (refine And.intro (by omega) ?_) | (refine AW.condT rfl rfl (by first | rfl | assumption) ?_) | (refine AW.condF rfl rfl (by first | rfl | assumption) ?_) | (refine AL.guT rfl (by first | rfl | assumption) ?_) | refine AW.dr (id := 8) (by rfl) [0, 2, 1, 3, 4, 5, 6, 7, 8, 9, 10, 11, 12, 13, 14, 15, 16, 17, 18, 19, 20] (by kernel_rfl) (by kernel_rfl) ?_ | ((first | refine AL.ld rfl ?_ | refine AL.bx rfl ?_ | refine AL.al ?_ | refine AL.st rfl rfl ?_ | refine AL.ca rfl ?_ | refine AL.pu rfl ?_ | refine AL.guF rfl (by first | rfl | assumption) ?_ | refine AL.skip rfl ?_ | refine AH.ld rfl ?_ | refine AH.bx rfl ?_ | refine AH.al ?_ | refine AH.stN rfl rfl (by kernel_rfl) ?_ | refine AH.ca (dst := some 25) rfl ?_ | refine AH.caN (dst := some 27) rfl (by kernel_rfl) ?_ | refine AH.pu rfl rfl ?_ | refine AH.guF rfl (by first | rfl | assumption) ?_ | refine AH.sk rfl ?_ | refine AH.guLd rfl (by first | rfl | assumption) rfl ?_ | refine AH.guCa rfl (by first | rfl | assumption) rfl ?_ | refine AH.guPu rfl rfl (by first | rfl | assumption) rfl ?_); simp (disch := omega) only [push_cast, ↓reduceIte, reduceCtorEq, Nat.reduceAdd, Nat.reduceMul, Nat.reduceLeDiff, Nat.reduceLT, Nat.reduceSub, Int.reduceNe, Int.reduceEq, Int.reduceLE, Int.reduceLT, Int.reduceToNat, memE, boxE])))
  refine (alive_spec _).mono ?_
  rintro r M1 ⟨hF1, rfl⟩
  have f1 := (Fr.push M (.box [.int .i64 a.origin, p, .int .u32 a.hop, .int .u32 a.med, .int .u32 a.pref, .bool a.hasMed, .bool a.hasPref, c])).tr hF1
  have bx1 := (At.push M (.box [.int .i64 a.origin, p, .int .u32 a.hop, .int .u32 a.med, .int .u32 a.pref, .bool a.hasMed, .bool a.hasPref, c])).keep hF1 (by simp)
  have hp1 := hp.keep f1 (by simp)
  have hc1 := hc.keep f1 (by simp)
  (repeat (first | refine st ?_ | refine ADL.hd rfl ?_ | (refine And.intro (by omega) ?_) | (refine AW.condT rfl rfl (by first | rfl | assumption) ?_) | (refine AW.condF rfl rfl (by first | rfl | assumption) ?_) | (refine AL.guT rfl (by first | rfl | assumption) ?_) | refine AW.dr (id := 8) (by rfl) [0, 2, 1, 3, 4, 5, 6, 7, 8, 9, 10, 11, 12, 13, 14, 15, 16, 17, 18, 19, 20] (by kernel_rfl) (by kernel_rfl) ?_ | ((first | refine AL.ld rfl ?_ | refine AL.bx rfl ?_ | refine AL.al ?_ | refine AL.st rfl rfl ?_ | refine AL.ca rfl ?_ | refine AL.pu rfl ?_ | refine AL.guF rfl (by first | rfl | assumption) ?_ | refine AL.skip rfl ?_ | refine AH.ld rfl ?_ | refine AH.bx rfl ?_ | refine AH.al ?_ | refine AH.stN rfl rfl (by kernel_rfl) ?_ | refine AH.ca (dst := some 25) rfl ?_ | refine AH.caN (dst := some 27) rfl (by kernel_rfl) ?_ | refine AH.pu rfl rfl ?_ | refine AH.guF rfl (by first | rfl | assumption) ?_ | refine AH.sk rfl ?_ | refine AH.guLd rfl (by first | rfl | assumption) rfl ?_ | refine AH.guCa rfl (by first | rfl | assumption) rfl ?_ | refine AH.guPu rfl rfl (by first | rfl | assumption) rfl ?_); simp (disch := omega) only [push_cast, ↓reduceIte, reduceCtorEq, Nat.reduceAdd, Nat.reduceMul, Nat.reduceLeDiff, Nat.reduceLT, Nat.reduceSub, Int.reduceNe, Int.reduceEq, Int.reduceLE, Int.reduceLT, Int.reduceToNat, bx1.ld, Bool.not_true])))
  refine (great_spec a p c M1 hp1 hc1).mono ?_
  rintro r M2 ⟨hF2, rfl⟩
  have bx2 := bx1.keep hF2 (by simp)
  have hp2 := hp1.keep hF2 (by simp)
  have hc2 := hc1.keep hF2 (by simp)
  by_cases cg : a.path.length > 1000 ∨ a.comms.length > 1000
  · have d : decide (a.path.length > 1000 ∨ a.comms.length > 1000) = true := decide_eq_true cg
    (repeat (first | refine st ?_ | refine ADL.hd rfl ?_ | (refine And.intro (by omega) ?_) | (refine AW.condT rfl rfl (by first | rfl | assumption) ?_) | (refine AW.condF rfl rfl (by first | rfl | assumption) ?_) | (refine AL.guT rfl (by first | rfl | assumption) ?_) | refine AW.dr (id := 8) (by rfl) [0, 2, 1, 3, 4, 5, 6, 7, 8, 9, 10, 11, 12, 13, 14, 15, 16, 17, 18, 19, 20] (by kernel_rfl) (by kernel_rfl) ?_ | ((first | refine AL.ld rfl ?_ | refine AL.bx rfl ?_ | refine AL.al ?_ | refine AL.st rfl rfl ?_ | refine AL.ca rfl ?_ | refine AL.pu rfl ?_ | refine AL.guF rfl (by first | rfl | assumption) ?_ | refine AL.skip rfl ?_ | refine AH.ld rfl ?_ | refine AH.bx rfl ?_ | refine AH.al ?_ | refine AH.stN rfl rfl (by kernel_rfl) ?_ | refine AH.ca (dst := some 25) rfl ?_ | refine AH.caN (dst := some 27) rfl (by kernel_rfl) ?_ | refine AH.pu rfl rfl ?_ | refine AH.guF rfl (by first | rfl | assumption) ?_ | refine AH.sk rfl ?_ | refine AH.guLd rfl (by first | rfl | assumption) rfl ?_ | refine AH.guCa rfl (by first | rfl | assumption) rfl ?_ | refine AH.guPu rfl rfl (by first | rfl | assumption) rfl ?_); simp (disch := omega) only [push_cast, ↓reduceIte, reduceCtorEq, Nat.reduceAdd, Nat.reduceMul, Nat.reduceLeDiff, Nat.reduceLT, Nat.reduceSub, Int.reduceNe, Int.reduceEq, Int.reduceLE, Int.reduceLT, Int.reduceToNat, d])))
    ((first | refine retA.ret (by rfl) ?_ | refine retA.normal (by rfl) ?_); simp (disch := omega) only [push_cast, ↓reduceIte, reduceCtorEq, Nat.reduceAdd, Nat.reduceMul, Nat.reduceLeDiff, Nat.reduceLT, Nat.reduceSub, Int.reduceNe, Int.reduceEq, Int.reduceLE, Int.reduceLT, Int.reduceToNat])
  have d : decide (a.path.length > 1000 ∨ a.comms.length > 1000) = false := decide_eq_false cg
  have l1 : a.path.length ≤ 1000 := by omega
  have l2 : a.comms.length ≤ 1000 := by omega
  clear bx1 hp1 hc1 f1 hF1 hF2
  (repeat (first | refine st ?_ | refine ADL.hd rfl ?_ | (refine And.intro (by omega) ?_) | (refine AW.condT rfl rfl (by first | rfl | assumption) ?_) | (refine AW.condF rfl rfl (by first | rfl | assumption) ?_) | (refine AL.guT rfl (by first | rfl | assumption) ?_) | refine AW.dr (id := 8) (by rfl) [0, 2, 1, 3, 4, 5, 6, 7, 8, 9, 10, 11, 12, 13, 14, 15, 16, 17, 18, 19, 20] (by kernel_rfl) (by kernel_rfl) ?_ | ((first | refine AL.ld rfl ?_ | refine AL.bx rfl ?_ | refine AL.al ?_ | refine AL.st rfl rfl ?_ | refine AL.ca rfl ?_ | refine AL.pu rfl ?_ | refine AL.guF rfl (by first | rfl | assumption) ?_ | refine AL.skip rfl ?_ | refine AH.ld rfl ?_ | refine AH.bx rfl ?_ | refine AH.al ?_ | refine AH.stN rfl rfl (by kernel_rfl) ?_ | refine AH.ca (dst := some 25) rfl ?_ | refine AH.caN (dst := some 27) rfl (by kernel_rfl) ?_ | refine AH.pu rfl rfl ?_ | refine AH.guF rfl (by first | rfl | assumption) ?_ | refine AH.sk rfl ?_ | refine AH.guLd rfl (by first | rfl | assumption) rfl ?_ | refine AH.guCa rfl (by first | rfl | assumption) rfl ?_ | refine AH.guPu rfl rfl (by first | rfl | assumption) rfl ?_); simp (disch := omega) only [push_cast, ↓reduceIte, reduceCtorEq, Nat.reduceAdd, Nat.reduceMul, Nat.reduceLeDiff, Nat.reduceLT, Nat.reduceSub, Int.reduceNe, Int.reduceEq, Int.reduceLE, Int.reduceLT, Int.reduceToNat, d, bx2.ld])))
  refine (copy_spec a p c M2 hp2 hc2 (by omega) (by omega)).mono ?_
  rintro r M3 ⟨hF3, p', c', rfl, hp', hc'⟩
  have op' := isSl_one hp'.isSl
  have oc' := isSl_one hc'.isSl
  simp only [Value.oneCell'] at op' oc'
  unfold avL
  have fb := Fr.push M3 (.box [.int .i64 a.origin, p', .int .u32 a.hop, .int .u32 a.med, .int .u32 a.pref, .bool a.hasMed, .bool a.hasPref, c'])
  have by3 := At.push M3 (.box [.int .i64 a.origin, p', .int .u32 a.hop, .int .u32 a.med, .int .u32 a.pref, .bool a.hasMed, .bool a.hasPref, c'])
  have hp3 := hp'.keep fb (by simp)
  have hc3 := hc'.keep fb (by simp)
  have bx3 := (bx2.keep hF3 (by simp)).keep fb (by simp)
  have hpo := (hp2.keep hF3 (by simp)).keep fb (by simp)
  have hco := (hc2.keep hF3 (by simp)).keep fb (by simp)
  (repeat (first | refine st ?_ | refine ADL.hd rfl ?_ | (refine And.intro (by omega) ?_) | (refine AW.condT rfl rfl (by first | rfl | assumption) ?_) | (refine AW.condF rfl rfl (by first | rfl | assumption) ?_) | (refine AL.guT rfl (by first | rfl | assumption) ?_) | refine AW.dr (id := 8) (by rfl) [0, 2, 1, 3, 4, 5, 6, 7, 8, 9, 10, 11, 12, 13, 14, 15, 16, 17, 18, 19, 20] (by kernel_rfl) (by kernel_rfl) ?_ | ((first | refine AL.ld rfl ?_ | refine AL.bx rfl ?_ | refine AL.al ?_ | refine AL.st rfl rfl ?_ | refine AL.ca rfl ?_ | refine AL.pu rfl ?_ | refine AL.guF rfl (by first | rfl | assumption) ?_ | refine AL.skip rfl ?_ | refine AH.ld rfl ?_ | refine AH.bx rfl ?_ | refine AH.al ?_ | refine AH.stN rfl rfl (by kernel_rfl) ?_ | refine AH.ca (dst := some 25) rfl ?_ | refine AH.caN (dst := some 27) rfl (by kernel_rfl) ?_ | refine AH.pu rfl rfl ?_ | refine AH.guF rfl (by first | rfl | assumption) ?_ | refine AH.sk rfl ?_ | refine AH.guLd rfl (by first | rfl | assumption) rfl ?_ | refine AH.guCa rfl (by first | rfl | assumption) rfl ?_ | refine AH.guPu rfl rfl (by first | rfl | assumption) rfl ?_); simp (disch := omega) only [push_cast, ↓reduceIte, reduceCtorEq, Nat.reduceAdd, Nat.reduceMul, Nat.reduceLeDiff, Nat.reduceLT, Nat.reduceSub, Int.reduceNe, Int.reduceEq, Int.reduceLE, Int.reduceLT, Int.reduceToNat, op', oc', memE, boxE])))
  generalize M3 ++ [Blk.box [.int .i64 a.origin, p', .int .u32 a.hop, .int .u32 a.med, .int .u32 a.pref, .bool a.hasMed, .bool a.hasPref, c']] = M4 at *
  generalize M3.length = b3 at *
  refine (put_spec a p' c' M4 hp3 hc3 ga (by omega) (by omega)).mono ?_
  rintro r M5 ⟨hF5, hr⟩
  have by5 := by3.keep hF5 (by simp)
  have bx5 := bx3.keep hF5 (by simp)
  have hp5 := hp3.keep hF5 (by simp)
  have hc5 := hc3.keep hF5 (by simp)
  have hpo := hpo.keep hF5 (by simp)
  have hco := hco.keep hF5 (by simp)
  -- what putting yields
  obtain ⟨out, hout⟩ : ∃ out : List Int, out = if rightP a then putP a else [] := ⟨_, rfl⟩
  obtain ⟨en, hen⟩ : ∃ en : Int, en = if rightP a then 0 else 4 := ⟨_, rfl⟩
  have key : ∀ {N M' : Mem} {r : Value}, ((rightP a ∧ ∃ w, r = .tuple ⟨[w, .int .i64 0]⟩ ∧ New N M' w 1 (ints .u8 (putP a))) ∨ (¬ rightP a ∧ r = .tuple ⟨[.slice none 0 0, .int .i64 4]⟩)) → ∃ w, r = .tuple ⟨[w, .int .i64 en]⟩ ∧ Sl M' w 1 (ints .u8 out) := by
    intro N M' r h
    rcases h with ⟨h, w, rfl, hN⟩ | ⟨h, rfl⟩
    · rw [if_pos h] at hout hen
      rw [hout, hen]
      exact ⟨w, rfl, hN.sl⟩
    · rw [if_neg h] at hout hen
      rw [hout, hen]
      exact ⟨_, rfl, Sl.nil _ (by omega)⟩
  have hol : out.length ≤ 1000000 := by
    by_cases h : rightP a
    · rw [hout, if_pos h]
      have := (putP_bytes h ga).2
      omega
    · rw [hout, if_neg h]; simp
  obtain ⟨w, rfl, hw⟩ := key hr
  (repeat (first | refine st ?_ | refine ADL.hd rfl ?_ | (refine And.intro (by omega) ?_) | (refine AW.condT rfl rfl (by first | rfl | assumption) ?_) | (refine AW.condF rfl rfl (by first | rfl | assumption) ?_) | (refine AL.guT rfl (by first | rfl | assumption) ?_) | refine AW.dr (id := 8) (by rfl) [0, 2, 1, 3, 4, 5, 6, 7, 8, 9, 10, 11, 12, 13, 14, 15, 16, 17, 18, 19, 20] (by kernel_rfl) (by kernel_rfl) ?_ | ((first | refine AL.ld rfl ?_ | refine AL.bx rfl ?_ | refine AL.al ?_ | refine AL.st rfl rfl ?_ | refine AL.ca rfl ?_ | refine AL.pu rfl ?_ | refine AL.guF rfl (by first | rfl | assumption) ?_ | refine AL.skip rfl ?_ | refine AH.ld rfl ?_ | refine AH.bx rfl ?_ | refine AH.al ?_ | refine AH.stN rfl rfl (by kernel_rfl) ?_ | refine AH.ca (dst := some 25) rfl ?_ | refine AH.caN (dst := some 27) rfl (by kernel_rfl) ?_ | refine AH.pu rfl rfl ?_ | refine AH.guF rfl (by first | rfl | assumption) ?_ | refine AH.sk rfl ?_ | refine AH.guLd rfl (by first | rfl | assumption) rfl ?_ | refine AH.guCa rfl (by first | rfl | assumption) rfl ?_ | refine AH.guPu rfl rfl (by first | rfl | assumption) rfl ?_); simp (disch := omega) only [push_cast, ↓reduceIte, reduceCtorEq, Nat.reduceAdd, Nat.reduceMul, Nat.reduceLeDiff, Nat.reduceLT, Nat.reduceSub, Int.reduceNe, Int.reduceEq, Int.reduceLE, Int.reduceLT, Int.reduceToNat, bx5.ld])))
  refine (rput_spec a p c M5 hpo hco ga (by omega) (by omega)).mono ?_
  rintro r M6 ⟨hF6, hr⟩
  obtain ⟨u, rfl, hu⟩ := key hr
  have by6 := by5.keep hF6 (by simp)
  have bx6 := bx5.keep hF6 (by simp)
  have hp6 := hp5.keep hF6 (by simp)
  have hc6 := hc5.keep hF6 (by simp)
  have hpo := hpo.keep hF6 (by simp)
  have hco := hco.keep hF6 (by simp)
  have hw6 := hw.keep hF6 (by simp)
  (repeat (first | refine st ?_ | refine ADL.hd rfl ?_ | (refine And.intro (by omega) ?_) | (refine AW.condT rfl rfl (by first | rfl | assumption) ?_) | (refine AW.condF rfl rfl (by first | rfl | assumption) ?_) | (refine AL.guT rfl (by first | rfl | assumption) ?_) | refine AW.dr (id := 8) (by rfl) [0, 2, 1, 3, 4, 5, 6, 7, 8, 9, 10, 11, 12, 13, 14, 15, 16, 17, 18, 19, 20] (by kernel_rfl) (by kernel_rfl) ?_ | ((first | refine AL.ld rfl ?_ | refine AL.bx rfl ?_ | refine AL.al ?_ | refine AL.st rfl rfl ?_ | refine AL.ca rfl ?_ | refine AL.pu rfl ?_ | refine AL.guF rfl (by first | rfl | assumption) ?_ | refine AL.skip rfl ?_ | refine AH.ld rfl ?_ | refine AH.bx rfl ?_ | refine AH.al ?_ | refine AH.stN rfl rfl (by kernel_rfl) ?_ | refine AH.ca (dst := some 25) rfl ?_ | refine AH.caN (dst := some 27) rfl (by kernel_rfl) ?_ | refine AH.pu rfl rfl ?_ | refine AH.guF rfl (by first | rfl | assumption) ?_ | refine AH.sk rfl ?_ | refine AH.guLd rfl (by first | rfl | assumption) rfl ?_ | refine AH.guCa rfl (by first | rfl | assumption) rfl ?_ | refine AH.guPu rfl rfl (by first | rfl | assumption) rfl ?_); simp (disch := omega) only [push_cast, ↓reduceIte, reduceCtorEq, Nat.reduceAdd, Nat.reduceMul, Nat.reduceLeDiff, Nat.reduceLT, Nat.reduceSub, Int.reduceNe, Int.reduceEq, Int.reduceLE, Int.reduceLT, Int.reduceToNat, by6.ld, bx6.ld])))
  refine (right_spec a p' c' M6 hp6 hc6 (by omega) (by omega)).mono ?_
  rintro r M7 ⟨hF7, rfl⟩
  refine ⟨hF7, ?_⟩
  have by7 := by6.keep hF7 (by simp)
  have bx7 := bx6.keep hF7 (by simp)
  (repeat (first | refine st ?_ | refine ADL.hd rfl ?_ | (refine And.intro (by omega) ?_) | (refine AW.condT rfl rfl (by first | rfl | assumption) ?_) | (refine AW.condF rfl rfl (by first | rfl | assumption) ?_) | (refine AL.guT rfl (by first | rfl | assumption) ?_) | refine AW.dr (id := 8) (by rfl) [0, 2, 1, 3, 4, 5, 6, 7, 8, 9, 10, 11, 12, 13, 14, 15, 16, 17, 18, 19, 20] (by kernel_rfl) (by kernel_rfl) ?_ | ((first | refine AL.ld rfl ?_ | refine AL.bx rfl ?_ | refine AL.al ?_ | refine AL.st rfl rfl ?_ | refine AL.ca rfl ?_ | refine AL.pu rfl ?_ | refine AL.guF rfl (by first | rfl | assumption) ?_ | refine AL.skip rfl ?_ | refine AH.ld rfl ?_ | refine AH.bx rfl ?_ | refine AH.al ?_ | refine AH.stN rfl rfl (by kernel_rfl) ?_ | refine AH.ca (dst := some 25) rfl ?_ | refine AH.caN (dst := some 27) rfl (by kernel_rfl) ?_ | refine AH.pu rfl rfl ?_ | refine AH.guF rfl (by first | rfl | assumption) ?_ | refine AH.sk rfl ?_ | refine AH.guLd rfl (by first | rfl | assumption) rfl ?_ | refine AH.guCa rfl (by first | rfl | assumption) rfl ?_ | refine AH.guPu rfl rfl (by first | rfl | assumption) rfl ?_); simp (disch := omega) only [push_cast, ↓reduceIte, reduceCtorEq, Nat.reduceAdd, Nat.reduceMul, Nat.reduceLeDiff, Nat.reduceLT, Nat.reduceSub, Int.reduceNe, Int.reduceEq, Int.reduceLE, Int.reduceLT, Int.reduceToNat, by7.ld, bx7.ld])))
  refine (rright2_spec a p c M7 (hpo.keep hF7 (by simp)) (hco.keep hF7 (by simp)) (by omega) (by omega)).mono ?_
  rintro r M8 ⟨hF8, rfl⟩
  have by8 := by7.keep hF8 (by simp)
  have bx8 := bx7.keep hF8 (by simp)
  have beq : ∀ x y : Bool, abin2 Try.prog .eql 4 (.bool x) (.bool y) = some (.bool (x == y)) := fun x y => by
    have hu : Try.prog.underlying 4 = some .bool := by kernel_rfl
    simp only [abin2, isShift, hu]
  have bb : ∀ x : Bool, (x == x) = true := fun x => by cases x <;> rfl
  have de : decide (en = en) = true := decide_eq_true rfl
  (repeat (first | refine st ?_ | refine ADL.hd rfl ?_ | (refine And.intro (by omega) ?_) | (refine AW.condT rfl rfl (by first | rfl | assumption) ?_) | (refine AW.condF rfl rfl (by first | rfl | assumption) ?_) | (refine AL.guT rfl (by first | rfl | assumption) ?_) | refine AW.dr (id := 8) (by rfl) [0, 2, 1, 3, 4, 5, 6, 7, 8, 9, 10, 11, 12, 13, 14, 15, 16, 17, 18, 19, 20] (by kernel_rfl) (by kernel_rfl) ?_ | ((first | refine AL.ld rfl ?_ | refine AL.bx rfl ?_ | refine AL.al ?_ | refine AL.st rfl rfl ?_ | refine AL.ca rfl ?_ | refine AL.pu rfl ?_ | refine AL.guF rfl (by first | rfl | assumption) ?_ | refine AL.skip rfl ?_ | refine AH.ld rfl ?_ | refine AH.bx rfl ?_ | refine AH.al ?_ | refine AH.stN rfl rfl (by kernel_rfl) ?_ | refine AH.ca (dst := some 25) rfl ?_ | refine AH.caN (dst := some 27) rfl (by kernel_rfl) ?_ | refine AH.pu rfl rfl ?_ | refine AH.guF rfl (by first | rfl | assumption) ?_ | refine AH.sk rfl ?_ | refine AH.guLd rfl (by first | rfl | assumption) rfl ?_ | refine AH.guCa rfl (by first | rfl | assumption) rfl ?_ | refine AH.guPu rfl rfl (by first | rfl | assumption) rfl ?_); simp (disch := omega) only [push_cast, ↓reduceIte, reduceCtorEq, Nat.reduceAdd, Nat.reduceMul, Nat.reduceLeDiff, Nat.reduceLT, Nat.reduceSub, Int.reduceNe, Int.reduceEq, Int.reduceLE, Int.reduceLT, Int.reduceToNat, beq, bb, de])))
  refine (bytes_spec w u out out M8 ((hw6.keep hF7 (by simp)).keep hF8 (by simp)) ((hu.keep hF7 (by simp)).keep hF8 (by simp)) (by omega)).mono ?_
  rintro r M9 ⟨rfl, rfl⟩
  have dx : decide (out = out) = true := decide_eq_true rfl
  refine ⟨Fr.refl _, ?_⟩
  have by9 := (by8.keep (Fr.refl M9) (by simp))
  (repeat (first | refine st ?_ | refine ADL.hd rfl ?_ | (refine And.intro (by omega) ?_) | (refine AW.condT rfl rfl (by first | rfl | assumption) ?_) | (refine AW.condF rfl rfl (by first | rfl | assumption) ?_) | (refine AL.guT rfl (by first | rfl | assumption) ?_) | refine AW.dr (id := 8) (by rfl) [0, 2, 1, 3, 4, 5, 6, 7, 8, 9, 10, 11, 12, 13, 14, 15, 16, 17, 18, 19, 20] (by kernel_rfl) (by kernel_rfl) ?_ | ((first | refine AL.ld rfl ?_ | refine AL.bx rfl ?_ | refine AL.al ?_ | refine AL.st rfl rfl ?_ | refine AL.ca rfl ?_ | refine AL.pu rfl ?_ | refine AL.guF rfl (by first | rfl | assumption) ?_ | refine AL.skip rfl ?_ | refine AH.ld rfl ?_ | refine AH.bx rfl ?_ | refine AH.al ?_ | refine AH.stN rfl rfl (by kernel_rfl) ?_ | refine AH.ca (dst := some 25) rfl ?_ | refine AH.caN (dst := some 27) rfl (by kernel_rfl) ?_ | refine AH.pu rfl rfl ?_ | refine AH.guF rfl (by first | rfl | assumption) ?_ | refine AH.sk rfl ?_ | refine AH.guLd rfl (by first | rfl | assumption) rfl ?_ | refine AH.guCa rfl (by first | rfl | assumption) rfl ?_ | refine AH.guPu rfl rfl (by first | rfl | assumption) rfl ?_); simp (disch := omega) only [push_cast, ↓reduceIte, reduceCtorEq, Nat.reduceAdd, Nat.reduceMul, Nat.reduceLeDiff, Nat.reduceLT, Nat.reduceSub, Int.reduceNe, Int.reduceEq, Int.reduceLE, Int.reduceLT, Int.reduceToNat, dx, by8.ld, bx8.ld])))
  refine (same_spec _ _ a a _ ⟨p', c', rfl, (hp6.keep hF7 (by simp)).keep hF8 (by simp), (hc6.keep hF7 (by simp)).keep hF8 (by simp)⟩ ⟨p, c, rfl, (hpo.keep hF7 (by simp)).keep hF8 (by simp), (hco.keep hF7 (by simp)).keep hF8 (by simp)⟩ (by omega) (by omega)).mono ?_
  rintro r M10 ⟨hF10, rfl⟩
  rw [sameP_self]
  try refine ⟨hF10, ?_⟩
  (repeat (first | refine st ?_ | refine ADL.hd rfl ?_ | (refine And.intro (by omega) ?_) | (refine AW.condT rfl rfl (by first | rfl | assumption) ?_) | (refine AW.condF rfl rfl (by first | rfl | assumption) ?_) | (refine AL.guT rfl (by first | rfl | assumption) ?_) | refine AW.dr (id := 8) (by rfl) [0, 2, 1, 3, 4, 5, 6, 7, 8, 9, 10, 11, 12, 13, 14, 15, 16, 17, 18, 19, 20] (by kernel_rfl) (by kernel_rfl) ?_ | ((first | refine AL.ld rfl ?_ | refine AL.bx rfl ?_ | refine AL.al ?_ | refine AL.st rfl rfl ?_ | refine AL.ca rfl ?_ | refine AL.pu rfl ?_ | refine AL.guF rfl (by first | rfl | assumption) ?_ | refine AL.skip rfl ?_ | refine AH.ld rfl ?_ | refine AH.bx rfl ?_ | refine AH.al ?_ | refine AH.stN rfl rfl (by kernel_rfl) ?_ | refine AH.ca (dst := some 25) rfl ?_ | refine AH.caN (dst := some 27) rfl (by kernel_rfl) ?_ | refine AH.pu rfl rfl ?_ | refine AH.guF rfl (by first | rfl | assumption) ?_ | refine AH.sk rfl ?_ | refine AH.guLd rfl (by first | rfl | assumption) rfl ?_ | refine AH.guCa rfl (by first | rfl | assumption) rfl ?_ | refine AH.guPu rfl rfl (by first | rfl | assumption) rfl ?_); simp (disch := omega) only [push_cast, ↓reduceIte, reduceCtorEq, Nat.reduceAdd, Nat.reduceMul, Nat.reduceLeDiff, Nat.reduceLT, Nat.reduceSub, Int.reduceNe, Int.reduceEq, Int.reduceLE, Int.reduceLT, Int.reduceToNat])))
  ((first | refine retA.ret (by rfl) ?_ | refine retA.normal (by rfl) ?_); simp (disch := omega) only [push_cast, ↓reduceIte, reduceCtorEq, Nat.reduceAdd, Nat.reduceMul, Nat.reduceLeDiff, Nat.reduceLT, Nat.reduceSub, Int.reduceNe, Int.reduceEq, Int.reduceLE, Int.reduceLT, Int.reduceToNat])

end Go.Proofs.Ytbjipdmbdabniaa.Ax
