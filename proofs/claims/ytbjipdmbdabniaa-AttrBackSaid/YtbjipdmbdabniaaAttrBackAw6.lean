/- Contracts of functions over the abstract machine. No conditions: lemmas alone. -/
import Derived.Test.YtbjipdmbdabniaaAttrBackLibD
import Derived.Test.YtbjipdmbdabniaaAttrBackPu3
import Derived.Test.YtbjipdmbdabniaaAttrBackAw3
import Derived.Test.YtbjipdmbdabniaaAttrBackPb
import Derived.Test.YtbjipdmbdabniaaAttrBackGr
namespace Go.Proofs.Ytbjipdmbdabniaa.Ax
open Go Go.RowKit
set_option linter.unusedVariables false
set_option linter.unusedSimpArgs false
set_option maxRecDepth 100000
set_option maxHeartbeats 20000000
attribute [local irreducible] thenA blockA scopeA retA AL AW AD ADL AH clrK CallA apure aload bload appK ptrK fnK ares szOk planOk okOps
theorem attrBack_in (M : Mem) (v0 v1 : Value) (h0 : In39 M v0) (h1 : In22 M v1) : CallA Try.prog 7 [v0, v1] M fun r _ => r = .bool true := by
  obtain ⟨a, p, c, rfl, hp, hc, ga, hpl, hcl⟩ := raw_in h0
  obtain ⟨v, xs, e, hb, hx, hv⟩ := h1
  cases e
  have hb := fun x h => wf_u8 (hb x h)
  unfold maxLen at hx
  have op := isSl_one hp.isSl
  have oc := isSl_one hc.isSl
  simp only [Value.oneCell'] at op oc
  unfold avL
  (refine CallA.of_body Try.func7 rfl (by rfl) ?_; simp only [Try.ntmps7, List.length_cons, List.length_nil, List.replicate, List.cons_append, List.nil_append, Nat.reduceSub, Nat.reduceAdd])
  (repeat (first | refine st ?_ | (refine And.intro (by omega) ?_) | (refine AW.condT rfl rfl (by first | rfl | assumption) ?_) | (refine AW.condF rfl rfl (by first | rfl | assumption) ?_) | (refine AL.guT rfl (by first | rfl | assumption) ?_) | ((first | refine AL.ld rfl ?_ | refine AL.bx rfl ?_ | refine AL.al ?_ | refine AL.st rfl rfl ?_ | refine AL.ca rfl ?_ | refine AL.pu rfl ?_ | refine AL.guF rfl (by first | rfl | assumption) ?_ | refine AL.skip rfl ?_); simp (disch := omega) only [push_cast, ↓reduceIte, reduceCtorEq, Nat.reduceAdd, Nat.reduceMul, Nat.reduceLeDiff, Nat.reduceLT, Nat.reduceSub, Int.reduceNe, Int.reduceEq, Int.reduceLE, Int.reduceLT, Int.reduceToNat, memE, boxE])))
  refine (alive_spec _).mono ?_
  rintro r M1 ⟨hF1, rfl⟩
  have f1 := (Fr.push M (.box [.int .i64 a.origin, p, .int .u32 a.hop, .int .u32 a.med, .int .u32 a.pref, .bool a.hasMed, .bool a.hasPref, c])).tr hF1
  have bx1 := (At.push M (.box [.int .i64 a.origin, p, .int .u32 a.hop, .int .u32 a.med, .int .u32 a.pref, .bool a.hasMed, .bool a.hasPref, c])).keep hF1 (by simp)
  have hp1 := hp.keep f1 (by simp)
  have hc1 := hc.keep f1 (by simp)
  have hv1 := hv.keep f1 (by simp)
  have hs := hv1.isSl
  have hn := hv1.lnI
  (repeat (first | refine st ?_ | (refine And.intro (by omega) ?_) | (refine AW.condT rfl rfl (by first | rfl | assumption) ?_) | (refine AW.condF rfl rfl (by first | rfl | assumption) ?_) | (refine AL.guT rfl (by first | rfl | assumption) ?_) | ((first | refine AL.ld rfl ?_ | refine AL.bx rfl ?_ | refine AL.al ?_ | refine AL.st rfl rfl ?_ | refine AL.ca rfl ?_ | refine AL.pu rfl ?_ | refine AL.guF rfl (by first | rfl | assumption) ?_ | refine AL.skip rfl ?_); simp (disch := omega) only [push_cast, ↓reduceIte, reduceCtorEq, Nat.reduceAdd, Nat.reduceMul, Nat.reduceLeDiff, Nat.reduceLT, Nat.reduceSub, Int.reduceNe, Int.reduceEq, Int.reduceLE, Int.reduceLT, Int.reduceToNat, bx1.ld, Bool.not_true])))
  refine (great_spec a p c M1 hp1 hc1).mono ?_
  rintro r M2 ⟨hF2, rfl⟩
  have bx2 := bx1.keep hF2 (by simp)
  have hp2 := hp1.keep hF2 (by simp)
  have hc2 := hc1.keep hF2 (by simp)
  have hv2 := hv1.keep hF2 (by simp)
  by_cases cg : a.path.length > 1000 ∨ a.comms.length > 1000
  · have d : decide (a.path.length > 1000 ∨ a.comms.length > 1000) = true := decide_eq_true cg
    (repeat (first | refine st ?_ | (refine And.intro (by omega) ?_) | (refine AW.condT rfl rfl (by first | rfl | assumption) ?_) | (refine AW.condF rfl rfl (by first | rfl | assumption) ?_) | (refine AL.guT rfl (by first | rfl | assumption) ?_) | ((first | refine AL.ld rfl ?_ | refine AL.bx rfl ?_ | refine AL.al ?_ | refine AL.st rfl rfl ?_ | refine AL.ca rfl ?_ | refine AL.pu rfl ?_ | refine AL.guF rfl (by first | rfl | assumption) ?_ | refine AL.skip rfl ?_); simp (disch := omega) only [push_cast, ↓reduceIte, reduceCtorEq, Nat.reduceAdd, Nat.reduceMul, Nat.reduceLeDiff, Nat.reduceLT, Nat.reduceSub, Int.reduceNe, Int.reduceEq, Int.reduceLE, Int.reduceLT, Int.reduceToNat, d])))
    ((first | refine retA.ret (by rfl) ?_ | refine retA.normal (by rfl) ?_); simp (disch := omega) only [push_cast, ↓reduceIte, reduceCtorEq, Nat.reduceAdd, Nat.reduceMul, Nat.reduceLeDiff, Nat.reduceLT, Nat.reduceSub, Int.reduceNe, Int.reduceEq, Int.reduceLE, Int.reduceLT, Int.reduceToNat])
  have d : decide (a.path.length > 1000 ∨ a.comms.length > 1000) = false := decide_eq_false cg
  by_cases c1 : xs.length > 10000
  · have d1 : decide ((xs.length : Int) > 10000) = true := decide_eq_true (by omega)
    (repeat (first | refine st ?_ | (refine And.intro (by omega) ?_) | (refine AW.condT rfl rfl (by first | rfl | assumption) ?_) | (refine AW.condF rfl rfl (by first | rfl | assumption) ?_) | (refine AL.guT rfl (by first | rfl | assumption) ?_) | ((first | refine AL.ld rfl ?_ | refine AL.bx rfl ?_ | refine AL.al ?_ | refine AL.st rfl rfl ?_ | refine AL.ca rfl ?_ | refine AL.pu rfl ?_ | refine AL.guF rfl (by first | rfl | assumption) ?_ | refine AL.skip rfl ?_); simp (disch := omega) only [push_cast, ↓reduceIte, reduceCtorEq, Nat.reduceAdd, Nat.reduceMul, Nat.reduceLeDiff, Nat.reduceLT, Nat.reduceSub, Int.reduceNe, Int.reduceEq, Int.reduceLE, Int.reduceLT, Int.reduceToNat, d, d1, hs, hn])))
    ((first | refine retA.ret (by rfl) ?_ | refine retA.normal (by rfl) ?_); simp (disch := omega) only [push_cast, ↓reduceIte, reduceCtorEq, Nat.reduceAdd, Nat.reduceMul, Nat.reduceLeDiff, Nat.reduceLT, Nat.reduceSub, Int.reduceNe, Int.reduceEq, Int.reduceLE, Int.reduceLT, Int.reduceToNat])
  have d1 : decide ((xs.length : Int) > 10000) = false := decide_eq_false (by omega)
  have l1 : a.path.length ≤ 1000 := by omega
  have l2 : a.comms.length ≤ 1000 := by omega
  (repeat (first | refine st ?_ | (refine And.intro (by omega) ?_) | (refine AW.condT rfl rfl (by first | rfl | assumption) ?_) | (refine AW.condF rfl rfl (by first | rfl | assumption) ?_) | (refine AL.guT rfl (by first | rfl | assumption) ?_) | ((first | refine AL.ld rfl ?_ | refine AL.bx rfl ?_ | refine AL.al ?_ | refine AL.st rfl rfl ?_ | refine AL.ca rfl ?_ | refine AL.pu rfl ?_ | refine AL.guF rfl (by first | rfl | assumption) ?_ | refine AL.skip rfl ?_); simp (disch := omega) only [push_cast, ↓reduceIte, reduceCtorEq, Nat.reduceAdd, Nat.reduceMul, Nat.reduceLeDiff, Nat.reduceLT, Nat.reduceSub, Int.reduceNe, Int.reduceEq, Int.reduceLE, Int.reduceLT, Int.reduceToNat, d, d1, hs, hn, bx2.ld])))
  refine (put_spec a p c M2 hp2 hc2 ga (by omega) (by omega)).mono ?_
  rintro r M3 ⟨hF3, hr⟩
  have bx3 := bx2.keep hF3 (by simp)
  have hp3 := hp2.keep hF3 (by simp)
  have hc3 := hc2.keep hF3 (by simp)
  have hv3 := hv2.keep hF3 (by simp)
  have z0 : decide ((0 : Int) = 0) = true := rfl
  have z4 : decide ((4 : Int) = 0) = false := rfl
  clear bx1 hp1 hc1 hv1 bx2 hp2 hc2 hv2 f1 hF1 hF2 hF3
  obtain ⟨A, e, hA⟩ : ∃ A e, rdP true xs = (A, e) := ⟨_, _, rfl⟩
  obtain ⟨w, e0, rfl, he⟩ : ∃ w e0, r = .tuple ⟨[w, .int .i64 e0]⟩ ∧ ((rightP a ∧ e0 = 0 ∧ New M2 M3 w 1 (ints .u8 (putP a))) ∨ (¬ rightP a ∧ e0 = 4)) := by
    rcases hr with ⟨hr, w, rfl, hN⟩ | ⟨hr, rfl⟩
    · exact ⟨w, 0, rfl, .inl ⟨hr, rfl, hN⟩⟩
    · exact ⟨_, 4, rfl, .inr ⟨hr, rfl⟩⟩
  (repeat (first | refine st ?_ | (refine And.intro (by omega) ?_) | (refine AW.condT rfl rfl (by first | rfl | assumption) ?_) | (refine AW.condF rfl rfl (by first | rfl | assumption) ?_) | (refine AL.guT rfl (by first | rfl | assumption) ?_) | ((first | refine AL.ld rfl ?_ | refine AL.bx rfl ?_ | refine AL.al ?_ | refine AL.st rfl rfl ?_ | refine AL.ca rfl ?_ | refine AL.pu rfl ?_ | refine AL.guF rfl (by first | rfl | assumption) ?_ | refine AL.skip rfl ?_); simp (disch := omega) only [push_cast, ↓reduceIte, reduceCtorEq, Nat.reduceAdd, Nat.reduceMul, Nat.reduceLeDiff, Nat.reduceLT, Nat.reduceSub, Int.reduceNe, Int.reduceEq, Int.reduceLE, Int.reduceLT, Int.reduceToNat])))
  refine AW.joinF [4, 7, 8, 31, 32, 33, 34, 35, 36, 37, 38, 39, 40, 41, 42, 43] (fun g M' => Fr M3 M' []) ?_ ?_
  · clear hr
    rcases he with ⟨hr, rfl, hN⟩ | ⟨hr, rfl⟩
    · (repeat (first | refine st ?_ | (refine And.intro (by omega) ?_) | (refine AW.condT rfl rfl (by first | rfl | assumption) ?_) | (refine AW.condF rfl rfl (by first | rfl | assumption) ?_) | (refine AL.guT rfl (by first | rfl | assumption) ?_) | ((first | refine AL.ld rfl ?_ | refine AL.bx rfl ?_ | refine AL.al ?_ | refine AL.st rfl rfl ?_ | refine AL.ca rfl ?_ | refine AL.pu rfl ?_ | refine AL.guF rfl (by first | rfl | assumption) ?_ | refine AL.skip rfl ?_); simp (disch := omega) only [push_cast, ↓reduceIte, reduceCtorEq, Nat.reduceAdd, Nat.reduceMul, Nat.reduceLeDiff, Nat.reduceLT, Nat.reduceSub, Int.reduceNe, Int.reduceEq, Int.reduceLE, Int.reduceLT, Int.reduceToNat, z0])))
      obtain ⟨pb, pl⟩ := putP_bytes hr ga
      refine readK hN.sl (by omega) pb (rd_put hr ga) ?_
      intro M5 p5 c5 hF5 hp5 hc5 op5 oc5
      simp only [Value.oneCell'] at op5 oc5
      unfold avL
      have fb := Fr.push M5 (.box [.int .i64 a.origin, p5, .int .u32 a.hop, .int .u32 a.med, .int .u32 a.pref, .bool a.hasMed, .bool a.hasPref, c5])
      have bx5 := (bx3.keep hF5 (by simp)).keep fb (by simp)
      (repeat (first | refine st ?_ | (refine And.intro (by omega) ?_) | (refine AW.condT rfl rfl (by first | rfl | assumption) ?_) | (refine AW.condF rfl rfl (by first | rfl | assumption) ?_) | (refine AL.guT rfl (by first | rfl | assumption) ?_) | ((first | refine AL.ld rfl ?_ | refine AL.bx rfl ?_ | refine AL.al ?_ | refine AL.st rfl rfl ?_ | refine AL.ca rfl ?_ | refine AL.pu rfl ?_ | refine AL.guF rfl (by first | rfl | assumption) ?_ | refine AL.skip rfl ?_); simp (disch := omega) only [push_cast, ↓reduceIte, reduceCtorEq, Nat.reduceAdd, Nat.reduceMul, Nat.reduceLeDiff, Nat.reduceLT, Nat.reduceSub, Int.reduceNe, Int.reduceEq, Int.reduceLE, Int.reduceLT, Int.reduceToNat, op5, oc5, z0, bx5.ld, Bool.not_true, memE, boxE])))
      refine (same_spec _ _ a a _ ⟨p5, c5, rfl, hp5.keep fb (by simp), hc5.keep fb (by simp)⟩ ⟨p, c, rfl, (hp3.keep hF5 (by simp)).keep fb (by simp), (hc3.keep hF5 (by simp)).keep fb (by simp)⟩ (by omega) (by omega)).mono ?_
      rintro r M6 ⟨hF6, rfl⟩
      rw [sameP_self]
      (repeat (first | refine st ?_ | (refine And.intro (by omega) ?_) | (refine AW.condT rfl rfl (by first | rfl | assumption) ?_) | (refine AW.condF rfl rfl (by first | rfl | assumption) ?_) | (refine AL.guT rfl (by first | rfl | assumption) ?_) | ((first | refine AL.ld rfl ?_ | refine AL.bx rfl ?_ | refine AL.al ?_ | refine AL.st rfl rfl ?_ | refine AL.ca rfl ?_ | refine AL.pu rfl ?_ | refine AL.guF rfl (by first | rfl | assumption) ?_ | refine AL.skip rfl ?_); simp (disch := omega) only [push_cast, ↓reduceIte, reduceCtorEq, Nat.reduceAdd, Nat.reduceMul, Nat.reduceLeDiff, Nat.reduceLT, Nat.reduceSub, Int.reduceNe, Int.reduceEq, Int.reduceLE, Int.reduceLT, Int.reduceToNat, Bool.not_true])))
      exact ⟨rfl, (hF5.tr fb).tr hF6⟩
    · (repeat (first | refine st ?_ | (refine And.intro (by omega) ?_) | (refine AW.condT rfl rfl (by first | rfl | assumption) ?_) | (refine AW.condF rfl rfl (by first | rfl | assumption) ?_) | (refine AL.guT rfl (by first | rfl | assumption) ?_) | ((first | refine AL.ld rfl ?_ | refine AL.bx rfl ?_ | refine AL.al ?_ | refine AL.st rfl rfl ?_ | refine AL.ca rfl ?_ | refine AL.pu rfl ?_ | refine AL.guF rfl (by first | rfl | assumption) ?_ | refine AL.skip rfl ?_); simp (disch := omega) only [push_cast, ↓reduceIte, reduceCtorEq, Nat.reduceAdd, Nat.reduceMul, Nat.reduceLeDiff, Nat.reduceLT, Nat.reduceSub, Int.reduceNe, Int.reduceEq, Int.reduceLE, Int.reduceLT, Int.reduceToNat, z4])))
      exact ⟨(over_self _ _).symm, Fr.refl M3⟩
  rintro g M4 hF4
  have hv4 := hv3.keep hF4 (by simp)
  (repeat (first | refine st ?_ | (refine And.intro (by omega) ?_) | (refine AW.condT rfl rfl (by first | rfl | assumption) ?_) | (refine AW.condF rfl rfl (by first | rfl | assumption) ?_) | (refine AL.guT rfl (by first | rfl | assumption) ?_) | ((first | refine AL.ld rfl ?_ | refine AL.bx rfl ?_ | refine AL.al ?_ | refine AL.st rfl rfl ?_ | refine AL.ca rfl ?_ | refine AL.pu rfl ?_ | refine AL.guF rfl (by first | rfl | assumption) ?_ | refine AL.skip rfl ?_); simp (disch := omega) only [push_cast, ↓reduceIte, reduceCtorEq, Nat.reduceAdd, Nat.reduceMul, Nat.reduceLeDiff, Nat.reduceLT, Nat.reduceSub, Int.reduceNe, Int.reduceEq, Int.reduceLE, Int.reduceLT, Int.reduceToNat])))
  refine readK hv4 (by omega) hb hA ?_
  intro M5 p5 c5 hF5 hp5 hc5 op5 oc5
  simp only [Value.oneCell'] at op5 oc5
  unfold avL
  have fb := Fr.push M5 (.box [.int .i64 A.origin, p5, .int .u32 A.hop, .int .u32 A.med, .int .u32 A.pref, .bool A.hasMed, .bool A.hasPref, c5])
  have bx5 := At.push M5 (.box [.int .i64 A.origin, p5, .int .u32 A.hop, .int .u32 A.med, .int .u32 A.pref, .bool A.hasMed, .bool A.hasPref, c5])
  have hp5 := hp5.keep fb (by simp)
  have hc5 := hc5.keep fb (by simp)
  by_cases ce : e = 0
  rotate_left
  · have de : decide (e = 0) = false := decide_eq_false ce
    have hz := rd_wrong (need := true) (xs := xs) (by rw [hA]; exact ce)
    rw [hA] at hz
    have hAz : A = AV.zero := congrArg Prod.fst hz
    subst hAz
    (repeat (first | refine st ?_ | (refine And.intro (by omega) ?_) | (refine AW.condT rfl rfl (by first | rfl | assumption) ?_) | (refine AW.condF rfl rfl (by first | rfl | assumption) ?_) | (refine AL.guT rfl (by first | rfl | assumption) ?_) | ((first | refine AL.ld rfl ?_ | refine AL.bx rfl ?_ | refine AL.al ?_ | refine AL.st rfl rfl ?_ | refine AL.ca rfl ?_ | refine AL.pu rfl ?_ | refine AL.guF rfl (by first | rfl | assumption) ?_ | refine AL.skip rfl ?_); simp (disch := omega) only [push_cast, ↓reduceIte, reduceCtorEq, Nat.reduceAdd, Nat.reduceMul, Nat.reduceLeDiff, Nat.reduceLT, Nat.reduceSub, Int.reduceNe, Int.reduceEq, Int.reduceLE, Int.reduceLT, Int.reduceToNat, op5, oc5, de, bx5.ld, Bool.not_false, buildE, memE, boxE])))
    refine (same_spec _ _ AV.zero AV.zero _ ⟨p5, c5, rfl, hp5, hc5⟩ ⟨.slice none 0 0, .slice none 0 0, rfl, Sl.nil _ (by omega), Sl.nil _ (by omega)⟩ (by simp [AV.zero]) (by simp [AV.zero])).mono ?_
    rintro r M6 ⟨hF6, rfl⟩
    rw [sameP_self]
    (repeat (first | refine st ?_ | (refine And.intro (by omega) ?_) | (refine AW.condT rfl rfl (by first | rfl | assumption) ?_) | (refine AW.condF rfl rfl (by first | rfl | assumption) ?_) | (refine AL.guT rfl (by first | rfl | assumption) ?_) | ((first | refine AL.ld rfl ?_ | refine AL.bx rfl ?_ | refine AL.al ?_ | refine AL.st rfl rfl ?_ | refine AL.ca rfl ?_ | refine AL.pu rfl ?_ | refine AL.guF rfl (by first | rfl | assumption) ?_ | refine AL.skip rfl ?_); simp (disch := omega) only [push_cast, ↓reduceIte, reduceCtorEq, Nat.reduceAdd, Nat.reduceMul, Nat.reduceLeDiff, Nat.reduceLT, Nat.reduceSub, Int.reduceNe, Int.reduceEq, Int.reduceLE, Int.reduceLT, Int.reduceToNat])))
    ((first | refine retA.ret (by rfl) ?_ | refine retA.normal (by rfl) ?_); simp (disch := omega) only [push_cast, ↓reduceIte, reduceCtorEq, Nat.reduceAdd, Nat.reduceMul, Nat.reduceLeDiff, Nat.reduceLT, Nat.reduceSub, Int.reduceNe, Int.reduceEq, Int.reduceLE, Int.reduceLT, Int.reduceToNat])
  subst ce
  obtain ⟨hrA, hgA⟩ := rd_right hb (by rw [hA])
  rw [hA] at hrA hgA
  simp only at hrA hgA
  have lA := hrA.2.1
  have lC := hrA.2.2.1
  (repeat (first | refine st ?_ | (refine And.intro (by omega) ?_) | (refine AW.condT rfl rfl (by first | rfl | assumption) ?_) | (refine AW.condF rfl rfl (by first | rfl | assumption) ?_) | (refine AL.guT rfl (by first | rfl | assumption) ?_) | ((first | refine AL.ld rfl ?_ | refine AL.bx rfl ?_ | refine AL.al ?_ | refine AL.st rfl rfl ?_ | refine AL.ca rfl ?_ | refine AL.pu rfl ?_ | refine AL.guF rfl (by first | rfl | assumption) ?_ | refine AL.skip rfl ?_); simp (disch := omega) only [push_cast, ↓reduceIte, reduceCtorEq, Nat.reduceAdd, Nat.reduceMul, Nat.reduceLeDiff, Nat.reduceLT, Nat.reduceSub, Int.reduceNe, Int.reduceEq, Int.reduceLE, Int.reduceLT, Int.reduceToNat, op5, oc5, z0, bx5.ld, Bool.not_true, memE, boxE])))
  have bx5g := bx5
  generalize M5 ++ [Blk.box [.int .i64 A.origin, p5, .int .u32 A.hop, .int .u32 A.med, .int .u32 A.pref, .bool A.hasMed, .bool A.hasPref, c5]] = M6 at *
  refine (put_spec A p5 c5 M6 hp5 hc5 hgA (by omega) (by omega)).mono ?_
  rintro r M7 ⟨hF7, hr7⟩
  rcases hr7 with ⟨_, w7, rfl, hN7⟩ | ⟨hr7, _⟩
  rotate_left
  · exact absurd hrA hr7
  obtain ⟨pb, pl⟩ := putP_bytes hrA hgA
  (repeat (first | refine st ?_ | (refine And.intro (by omega) ?_) | (refine AW.condT rfl rfl (by first | rfl | assumption) ?_) | (refine AW.condF rfl rfl (by first | rfl | assumption) ?_) | (refine AL.guT rfl (by first | rfl | assumption) ?_) | ((first | refine AL.ld rfl ?_ | refine AL.bx rfl ?_ | refine AL.al ?_ | refine AL.st rfl rfl ?_ | refine AL.ca rfl ?_ | refine AL.pu rfl ?_ | refine AL.guF rfl (by first | rfl | assumption) ?_ | refine AL.skip rfl ?_); simp (disch := omega) only [push_cast, ↓reduceIte, reduceCtorEq, Nat.reduceAdd, Nat.reduceMul, Nat.reduceLeDiff, Nat.reduceLT, Nat.reduceSub, Int.reduceNe, Int.reduceEq, Int.reduceLE, Int.reduceLT, Int.reduceToNat])))
  refine readK hN7.sl (by omega) pb (rd_put hrA hgA) ?_
  intro M8 p8 c8 hF8 hp8 hc8 op8 oc8
  simp only [Value.oneCell'] at op8 oc8
  unfold avL
  have fb := Fr.push M8 (.box [.int .i64 A.origin, p8, .int .u32 A.hop, .int .u32 A.med, .int .u32 A.pref, .bool A.hasMed, .bool A.hasPref, c8])
  have F68 := (hF7.tr hF8).tr fb
  have bx8 := At.push M8 (.box [.int .i64 A.origin, p8, .int .u32 A.hop, .int .u32 A.med, .int .u32 A.pref, .bool A.hasMed, .bool A.hasPref, c8])
  have hp8 := hp8.keep fb (by simp)
  have hc8 := hc8.keep fb (by simp)
  have bx9 := bx5g.keep F68 (by simp)
  have hp9 := hp5.keep F68 (by simp)
  have hc9 := hc5.keep F68 (by simp)
  (repeat (first | refine st ?_ | (refine And.intro (by omega) ?_) | (refine AW.condT rfl rfl (by first | rfl | assumption) ?_) | (refine AW.condF rfl rfl (by first | rfl | assumption) ?_) | (refine AL.guT rfl (by first | rfl | assumption) ?_) | ((first | refine AL.ld rfl ?_ | refine AL.bx rfl ?_ | refine AL.al ?_ | refine AL.st rfl rfl ?_ | refine AL.ca rfl ?_ | refine AL.pu rfl ?_ | refine AL.guF rfl (by first | rfl | assumption) ?_ | refine AL.skip rfl ?_); simp (disch := omega) only [push_cast, ↓reduceIte, reduceCtorEq, Nat.reduceAdd, Nat.reduceMul, Nat.reduceLeDiff, Nat.reduceLT, Nat.reduceSub, Int.reduceNe, Int.reduceEq, Int.reduceLE, Int.reduceLT, Int.reduceToNat, op8, oc8, bx9.ld, memE, boxE])))
  refine (right_spec A p5 c5 _ hp9 hc9 (by omega) (by omega)).mono ?_
  rintro r M10 ⟨hF10, rfl⟩
  have dr : decide (rightP A) = true := decide_eq_true hrA
  have bxa := bx9.keep hF10 (by simp)
  have bxb := bx8.keep hF10 (by simp)
  (repeat (first | refine st ?_ | (refine And.intro (by omega) ?_) | (refine AW.condT rfl rfl (by first | rfl | assumption) ?_) | (refine AW.condF rfl rfl (by first | rfl | assumption) ?_) | (refine AL.guT rfl (by first | rfl | assumption) ?_) | ((first | refine AL.ld rfl ?_ | refine AL.bx rfl ?_ | refine AL.al ?_ | refine AL.st rfl rfl ?_ | refine AL.ca rfl ?_ | refine AL.pu rfl ?_ | refine AL.guF rfl (by first | rfl | assumption) ?_ | refine AL.skip rfl ?_); simp (disch := omega) only [push_cast, ↓reduceIte, reduceCtorEq, Nat.reduceAdd, Nat.reduceMul, Nat.reduceLeDiff, Nat.reduceLT, Nat.reduceSub, Int.reduceNe, Int.reduceEq, Int.reduceLE, Int.reduceLT, Int.reduceToNat, dr, z0, bxa.ld, bxb.ld])))
  refine (same_spec _ _ A A _ ⟨p5, c5, rfl, hp9.keep hF10 (by simp), hc9.keep hF10 (by simp)⟩ ⟨p8, c8, rfl, hp8.keep hF10 (by simp), hc8.keep hF10 (by simp)⟩ (by omega) (by omega)).mono ?_
  rintro r M11 ⟨hF11, rfl⟩
  rw [sameP_self]
  (repeat (first | refine st ?_ | (refine And.intro (by omega) ?_) | (refine AW.condT rfl rfl (by first | rfl | assumption) ?_) | (refine AW.condF rfl rfl (by first | rfl | assumption) ?_) | (refine AL.guT rfl (by first | rfl | assumption) ?_) | ((first | refine AL.ld rfl ?_ | refine AL.bx rfl ?_ | refine AL.al ?_ | refine AL.st rfl rfl ?_ | refine AL.ca rfl ?_ | refine AL.pu rfl ?_ | refine AL.guF rfl (by first | rfl | assumption) ?_ | refine AL.skip rfl ?_); simp (disch := omega) only [push_cast, ↓reduceIte, reduceCtorEq, Nat.reduceAdd, Nat.reduceMul, Nat.reduceLeDiff, Nat.reduceLT, Nat.reduceSub, Int.reduceNe, Int.reduceEq, Int.reduceLE, Int.reduceLT, Int.reduceToNat])))
  ((first | refine retA.ret (by rfl) ?_ | refine retA.normal (by rfl) ?_); simp (disch := omega) only [push_cast, ↓reduceIte, reduceCtorEq, Nat.reduceAdd, Nat.reduceMul, Nat.reduceLeDiff, Nat.reduceLT, Nat.reduceSub, Int.reduceNe, Int.reduceEq, Int.reduceLE, Int.reduceLT, Int.reduceToNat])

end Go.Proofs.Ytbjipdmbdabniaa.Ax
