/- Contracts of functions over the abstract machine. No conditions: lemmas alone. -/
import Derived.Test.YtbjipdmbdabniaaAttrReadsLibD
import Derived.Test.YtbjipdmbdabniaaAttrReadsAw1
import Derived.Test.YtbjipdmbdabniaaAttrReadsIn
namespace Go.Proofs.Ytbjipdmbdabniaa.Ax
open Go Go.RowKit
set_option linter.unusedVariables false
set_option linter.unusedSimpArgs false
set_option maxRecDepth 100000
set_option maxHeartbeats 20000000
attribute [local irreducible] thenA blockA scopeA retA AL AW AD ADL AH clrK CallA apure aload bload appK ptrK fnK ares szOk planOk okOps
theorem rreadK {v : Value} {xs : List Int} {need : Bool} {M : Mem} {A : AV} {e : Int} {K : Value → Mem → Prop} (hv : Sl M v 1 (ints .u8 xs)) (hx : xs.length ≤ 100000) (hb : ∀ x ∈ xs, 0 ≤ x ∧ x ≤ 255) (h : rdP need xs = (A, e))
    (hK : ∀ M' p c, Fr M M' [] → Sl M' p 1 (ints .u32 A.path) → Sl M' c 1 (ints .u32 A.comms) → Value.oneCell' p = true → Value.oneCell' c = true → K (.tuple ⟨[.agg ⟨avL A p c⟩, .int .i64 e]⟩) M') : CallA Try.prog 10 [v, .bool need] M K := by
  refine (rread_spec v xs need M hv hx hb).mono ?_
  rintro r M' ⟨hF, w, rfl, hA⟩
  have h' : readP need (xs.length + 1) xs (fun _ => false) AV.zero = (A, e) := h
  rw [h'] at hA ⊢
  obtain ⟨p, c, rfl, hp, hc⟩ := hA
  exact hK M' p c hF hp hc (isSl_one hp.isSl) (isSl_one hc.isSl)
theorem attrReads_spec (v : Value) (xs : List Int) (need : Bool) (M : Mem) (hv : Sl M v 1 (ints .u8 xs)) (hb : ∀ x ∈ xs, 0 ≤ x ∧ x ≤ 255) (hx : xs.length ≤ 9223372036854775807) : CallA Try.prog 3 [v, .bool need] M fun r M' => r = .bool true := by
  (refine CallA.of_body Try.func3 rfl (by rfl) ?_; simp only [Try.ntmps3, List.length_cons, List.length_nil, List.replicate, List.cons_append, List.nil_append, Nat.reduceSub, Nat.reduceAdd])
  (repeat (first | refine st ?_ | (refine And.intro (by omega) ?_) | (refine AW.condT rfl rfl (by first | rfl | assumption) ?_) | (refine AW.condF rfl rfl (by first | rfl | assumption) ?_) | (refine AL.guT rfl (by first | rfl | assumption) ?_) | ((first | refine AL.ld rfl ?_ | refine AL.al ?_ | refine AL.lt rfl ?_ | refine AL.st rfl rfl ?_ | refine AL.ap rfl rfl ?_ | refine AL.ca rfl ?_ | refine AL.pu rfl ?_ | refine AL.guF rfl (by first | rfl | assumption) ?_ | refine AL.skip rfl ?_); simp (disch := omega) only [push_cast, ↓reduceIte, reduceCtorEq, Nat.reduceAdd, Nat.reduceMul, Nat.reduceLeDiff, Nat.reduceLT, Nat.reduceSub, Int.reduceNe, Int.reduceEq, Int.reduceLE, Int.reduceLT, Int.reduceToNat])))
  refine (alive_spec _).mono ?_
  rintro r M1 ⟨hF1, rfl⟩
  have hv1 := hv.keep hF1 (by simp)
  have hs := hv1.isSl
  have hn := hv1.lnI
  by_cases c : xs.length ≤ 10000
  rotate_left
  · have d : decide ((xs.length : Int) > 10000) = true := decide_eq_true (by omega)
    (repeat (first | refine st ?_ | (refine And.intro (by omega) ?_) | (refine AW.condT rfl rfl (by first | rfl | assumption) ?_) | (refine AW.condF rfl rfl (by first | rfl | assumption) ?_) | (refine AL.guT rfl (by first | rfl | assumption) ?_) | ((first | refine AL.ld rfl ?_ | refine AL.al ?_ | refine AL.lt rfl ?_ | refine AL.st rfl rfl ?_ | refine AL.ap rfl rfl ?_ | refine AL.ca rfl ?_ | refine AL.pu rfl ?_ | refine AL.guF rfl (by first | rfl | assumption) ?_ | refine AL.skip rfl ?_); simp (disch := omega) only [push_cast, ↓reduceIte, reduceCtorEq, Nat.reduceAdd, Nat.reduceMul, Nat.reduceLeDiff, Nat.reduceLT, Nat.reduceSub, Int.reduceNe, Int.reduceEq, Int.reduceLE, Int.reduceLT, Int.reduceToNat, hs, hn, d, Bool.not_true])))
    ((first | refine retA.ret (by rfl) ?_ | refine retA.normal (by rfl) ?_); simp (disch := omega) only [push_cast, ↓reduceIte, reduceCtorEq, Nat.reduceAdd, Nat.reduceMul, Nat.reduceLeDiff, Nat.reduceLT, Nat.reduceSub, Int.reduceNe, Int.reduceEq, Int.reduceLE, Int.reduceLT, Int.reduceToNat])
  have d : decide ((xs.length : Int) > 10000) = false := decide_eq_false (by omega)
  (repeat (first | refine st ?_ | (refine And.intro (by omega) ?_) | (refine AW.condT rfl rfl (by first | rfl | assumption) ?_) | (refine AW.condF rfl rfl (by first | rfl | assumption) ?_) | (refine AL.guT rfl (by first | rfl | assumption) ?_) | ((first | refine AL.ld rfl ?_ | refine AL.al ?_ | refine AL.lt rfl ?_ | refine AL.st rfl rfl ?_ | refine AL.ap rfl rfl ?_ | refine AL.ca rfl ?_ | refine AL.pu rfl ?_ | refine AL.guF rfl (by first | rfl | assumption) ?_ | refine AL.skip rfl ?_); simp (disch := omega) only [push_cast, ↓reduceIte, reduceCtorEq, Nat.reduceAdd, Nat.reduceMul, Nat.reduceLeDiff, Nat.reduceLT, Nat.reduceSub, Int.reduceNe, Int.reduceEq, Int.reduceLE, Int.reduceLT, Int.reduceToNat, hs, hn, d, Bool.not_true])))
  have r0 := New.row M1 (s := 1) (n := 0) (cs := []) (by omega) rfl rfl (by decide)
  have hv2 := hv1.keep (Fr.push M1 (.row true 1 [])) (by simp)
  refine appK.ints (P := Try.prog) (e := 5) (bt := 1) (z := .int .u8 0) (by kernel_rfl) (by kernel_rfl) (by kernel_rfl) (by kernel_rfl) (by decide) (xs := []) r0.1 hv2 (by simp; omega) ?_
  intro v1 M2 hN2 hF2
  rw [List.nil_append] at hN2
  have hvb := hv1.blks
  have hv3 := hv2.keep hF2 (fun b hb hx => by have := hvb b hb; simp [blkOf] at hx)
  obtain ⟨A, e, hA⟩ : ∃ A e, rdP need xs = (A, e) := ⟨_, _, rfl⟩
  have hsh := rd_len (need := need) (xs := xs) hb
  rw [hA] at hsh
  simp only at hsh
  (repeat (first | refine st ?_ | (refine And.intro (by omega) ?_) | (refine AW.condT rfl rfl (by first | rfl | assumption) ?_) | (refine AW.condF rfl rfl (by first | rfl | assumption) ?_) | (refine AL.guT rfl (by first | rfl | assumption) ?_) | ((first | refine AL.ld rfl ?_ | refine AL.al ?_ | refine AL.lt rfl ?_ | refine AL.st rfl rfl ?_ | refine AL.ap rfl rfl ?_ | refine AL.ca rfl ?_ | refine AL.pu rfl ?_ | refine AL.guF rfl (by first | rfl | assumption) ?_ | refine AL.skip rfl ?_); simp (disch := omega) only [push_cast, ↓reduceIte, reduceCtorEq, Nat.reduceAdd, Nat.reduceMul, Nat.reduceLeDiff, Nat.reduceLT, Nat.reduceSub, Int.reduceNe, Int.reduceEq, Int.reduceLE, Int.reduceLT, Int.reduceToNat])))
  refine readK hN2.sl (by omega) hb hA ?_
  intro M3 p c hF3 hp hc op oc
  simp only [Value.oneCell'] at op oc
  have n3 := hN2.1.keep hF3 (by simp)
  have hv4 := hv3.keep hF3 (by simp)
  unfold avL
  (repeat (first | refine st ?_ | (refine And.intro (by omega) ?_) | (refine AW.condT rfl rfl (by first | rfl | assumption) ?_) | (refine AW.condF rfl rfl (by first | rfl | assumption) ?_) | (refine AL.guT rfl (by first | rfl | assumption) ?_) | ((first | refine AL.ld rfl ?_ | refine AL.al ?_ | refine AL.lt rfl ?_ | refine AL.st rfl rfl ?_ | refine AL.ap rfl rfl ?_ | refine AL.ca rfl ?_ | refine AL.pu rfl ?_ | refine AL.guF rfl (by first | rfl | assumption) ?_ | refine AL.skip rfl ?_); simp (disch := omega) only [push_cast, ↓reduceIte, reduceCtorEq, Nat.reduceAdd, Nat.reduceMul, Nat.reduceLeDiff, Nat.reduceLT, Nat.reduceSub, Int.reduceNe, Int.reduceEq, Int.reduceLE, Int.reduceLT, Int.reduceToNat, op, oc, memE, boxE])))
  have fb := Fr.push M3 (.box (avL A p c))
  have bx := At.push M3 (.box (avL A p c))
  refine rreadK (hv4.keep fb (by simp)) (by omega) hb hA ?_
  intro M5 p' c' hF5 hp' hc' op' oc'
  simp only [Value.oneCell'] at op' oc'
  have n5 := (n3.keep fb (by simp)).keep hF5 (by simp)
  have hv5 := (hv4.keep fb (by simp)).keep hF5 (by simp)
  have bx5 := bx.keep hF5 (by simp)
  have hp5 := (hp.keep fb (by simp)).keep hF5 (by simp)
  have hc5 := (hc.keep fb (by simp)).keep hF5 (by simp)
  unfold avL at bx5 ⊢
  have fb' := Fr.push M5 (.box [.int .i64 A.origin, p', .int .u32 A.hop, .int .u32 A.med, .int .u32 A.pref, .bool A.hasMed, .bool A.hasPref, c'])
  have dd : decide (e = e) = true := decide_eq_true rfl
  have bx6 := bx5.keep fb' (by simp)
  (repeat (first | refine st ?_ | (refine And.intro (by omega) ?_) | (refine AW.condT rfl rfl (by first | rfl | assumption) ?_) | (refine AW.condF rfl rfl (by first | rfl | assumption) ?_) | (refine AL.guT rfl (by first | rfl | assumption) ?_) | ((first | refine AL.ld rfl ?_ | refine AL.al ?_ | refine AL.lt rfl ?_ | refine AL.st rfl rfl ?_ | refine AL.ap rfl rfl ?_ | refine AL.ca rfl ?_ | refine AL.pu rfl ?_ | refine AL.guF rfl (by first | rfl | assumption) ?_ | refine AL.skip rfl ?_); simp (disch := omega) only [push_cast, ↓reduceIte, reduceCtorEq, Nat.reduceAdd, Nat.reduceMul, Nat.reduceLeDiff, Nat.reduceLT, Nat.reduceSub, Int.reduceNe, Int.reduceEq, Int.reduceLE, Int.reduceLT, Int.reduceToNat, op', oc', dd, bx6.ld, memE, boxE])))
  refine (same_spec _ _ A A _ ⟨p, c, rfl, hp5.keep fb' (by simp), hc5.keep fb' (by simp)⟩ ⟨p', c', rfl, hp'.keep fb' (by simp), hc'.keep fb' (by simp)⟩ (by omega) (by omega)).mono ?_
  rintro r M6 ⟨hF6, rfl⟩
  rw [sameP_self]
  (repeat (first | refine st ?_ | (refine And.intro (by omega) ?_) | (refine AW.condT rfl rfl (by first | rfl | assumption) ?_) | (refine AW.condF rfl rfl (by first | rfl | assumption) ?_) | (refine AL.guT rfl (by first | rfl | assumption) ?_) | ((first | refine AL.ld rfl ?_ | refine AL.al ?_ | refine AL.lt rfl ?_ | refine AL.st rfl rfl ?_ | refine AL.ap rfl rfl ?_ | refine AL.ca rfl ?_ | refine AL.pu rfl ?_ | refine AL.guF rfl (by first | rfl | assumption) ?_ | refine AL.skip rfl ?_); simp (disch := omega) only [push_cast, ↓reduceIte, reduceCtorEq, Nat.reduceAdd, Nat.reduceMul, Nat.reduceLeDiff, Nat.reduceLT, Nat.reduceSub, Int.reduceNe, Int.reduceEq, Int.reduceLE, Int.reduceLT, Int.reduceToNat])))
  refine (bytes_spec _ _ xs xs _ ((n5.keep fb' (by simp)).keep hF6 (by simp)).sl ((hv5.keep fb' (by simp)).keep hF6 (by simp)) (by omega)).mono ?_
  rintro r M7 ⟨rfl, rfl⟩
  have dx : decide (xs = xs) = true := decide_eq_true rfl
  (repeat (first | refine st ?_ | (refine And.intro (by omega) ?_) | (refine AW.condT rfl rfl (by first | rfl | assumption) ?_) | (refine AW.condF rfl rfl (by first | rfl | assumption) ?_) | (refine AL.guT rfl (by first | rfl | assumption) ?_) | ((first | refine AL.ld rfl ?_ | refine AL.al ?_ | refine AL.lt rfl ?_ | refine AL.st rfl rfl ?_ | refine AL.ap rfl rfl ?_ | refine AL.ca rfl ?_ | refine AL.pu rfl ?_ | refine AL.guF rfl (by first | rfl | assumption) ?_ | refine AL.skip rfl ?_); simp (disch := omega) only [push_cast, ↓reduceIte, reduceCtorEq, Nat.reduceAdd, Nat.reduceMul, Nat.reduceLeDiff, Nat.reduceLT, Nat.reduceSub, Int.reduceNe, Int.reduceEq, Int.reduceLE, Int.reduceLT, Int.reduceToNat, dx])))
  ((first | refine retA.ret (by rfl) ?_ | refine retA.normal (by rfl) ?_); simp (disch := omega) only [push_cast, ↓reduceIte, reduceCtorEq, Nat.reduceAdd, Nat.reduceMul, Nat.reduceLeDiff, Nat.reduceLT, Nat.reduceSub, Int.reduceNe, Int.reduceEq, Int.reduceLE, Int.reduceLT, Int.reduceToNat])
theorem attrReads_in (M : Mem) (v0 v1 : Value) (h0 : In22 M v0) (h1 : In4 M v1) : CallA Try.prog 3 [v0, v1] M fun r _ => r = .bool true := by
  obtain ⟨v, xs, e, hb, hx, hv⟩ := h0
  cases e
  obtain ⟨b, e⟩ := h1
  cases e
  exact attrReads_spec v0 xs b M hv (fun x h => wf_u8 (hb x h)) hx

end Go.Proofs.Ytbjipdmbdabniaa.Ax
