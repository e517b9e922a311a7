/- Contracts of functions over the abstract machine. No conditions: lemmas alone. -/
import Derived.Test.YtbjipdmbdabniaaAttrPutsLibD
import Derived.Test.YtbjipdmbdabniaaAttrPutsPu2
import Derived.Test.YtbjipdmbdabniaaAttrPutsIn
namespace Go.Proofs.Ytbjipdmbdabniaa.Ax
open Go Go.RowKit
set_option linter.unusedVariables false
set_option linter.unusedSimpArgs false
set_option maxRecDepth 100000
set_option maxHeartbeats 20000000
attribute [local irreducible] thenA blockA scopeA retA AL AW AD ADL AH clrK CallA apure aload bload appK ptrK fnK ares szOk planOk okOps
theorem raw_in {M : Mem} {v0 : Value} (h0 : In39 M v0) : ∃ a p c, v0 = .agg ⟨avL a p c⟩ ∧ Sl M p 1 (ints .u32 a.path) ∧ Sl M c 1 (ints .u32 a.comms) ∧ goodAV a ∧ a.path.length ≤ maxLen ∧ a.comms.length ≤ maxLen := by
  obtain ⟨acs, rfl, x1, b1, rfl, ⟨o, ho, rfl⟩, x2, b2, rfl, ⟨p, ps, rfl, hps, lps, hp⟩, x3, b3, rfl, ⟨hop, hh, rfl⟩, x4, b4, rfl, ⟨med, hm, rfl⟩, x5, b5, rfl, ⟨pref, hq, rfl⟩, x6, b6, rfl, ⟨hM, rfl⟩, x7, b7, rfl, ⟨hP, rfl⟩, x8, b8, rfl, ⟨c, cs, rfl, hcs, lcs, hc⟩, rfl⟩ := h0
  exact ⟨⟨o, ps, hop, med, pref, hM, hP, cs⟩, p, c, rfl, hp, hc, ⟨fun x h => wf_u32 (hps x h), wf_u32 hh, wf_u32 hm, wf_u32 hq, fun x h => wf_u32 (hcs x h)⟩, lps, lcs⟩
theorem great_spec (a : AV) (p c : Value) (M : Mem) (hp : Sl M p 1 (ints .u32 a.path)) (hc : Sl M c 1 (ints .u32 a.comms)) : CallA Try.prog 13 [.agg ⟨avL a p c⟩] M fun r M' => Fr M M' [] ∧ r = .bool (decide (a.path.length > 1000 ∨ a.comms.length > 1000)) := by
  have hsp := hp.isSl
  have hnp := hp.lnI
  have hsc := hc.isSl
  have hnc := hc.lnI
  unfold avL
  (refine CallA.of_body Try.func13 rfl (by rfl) ?_; simp only [Try.ntmps13, List.length_cons, List.length_nil, List.replicate, List.cons_append, List.nil_append, Nat.reduceSub, Nat.reduceAdd])
  by_cases c1 : a.path.length > 1000
  · have d : decide ((a.path.length : Int) > 1000) = true := decide_eq_true (by omega)
    (repeat (first | refine st ?_ | (refine And.intro (by omega) ?_) | (refine AL.guT rfl (by first | rfl | assumption) ?_) | ((first | refine AL.ld rfl ?_ | refine AL.bx rfl ?_ | refine AL.pu rfl ?_ | refine AL.guF rfl (by first | rfl | assumption) ?_ | refine AL.skip rfl ?_); simp (disch := omega) only [push_cast, ↓reduceIte, reduceCtorEq, Nat.reduceAdd, Nat.reduceMul, Nat.reduceLeDiff, Nat.reduceLT, Nat.reduceSub, Int.reduceNe, Int.reduceEq, Int.reduceLE, Int.reduceLT, Int.reduceToNat, hsp, hnp, d, memE, boxE])))
    ((first | refine retA.ret (by rfl) ?_ | refine retA.normal (by rfl) ?_); simp (disch := omega) only [push_cast, ↓reduceIte, reduceCtorEq, Nat.reduceAdd, Nat.reduceMul, Nat.reduceLeDiff, Nat.reduceLT, Nat.reduceSub, Int.reduceNe, Int.reduceEq, Int.reduceLE, Int.reduceLT, Int.reduceToNat])
    exact ⟨Fr.push M _, by simp [c1]⟩
  · have d : decide ((a.path.length : Int) > 1000) = false := decide_eq_false (by omega)
    by_cases c2 : a.comms.length > 1000
    · have d2 : decide ((a.comms.length : Int) > 1000) = true := decide_eq_true (by omega)
      (repeat (first | refine st ?_ | (refine And.intro (by omega) ?_) | (refine AL.guT rfl (by first | rfl | assumption) ?_) | ((first | refine AL.ld rfl ?_ | refine AL.bx rfl ?_ | refine AL.pu rfl ?_ | refine AL.guF rfl (by first | rfl | assumption) ?_ | refine AL.skip rfl ?_); simp (disch := omega) only [push_cast, ↓reduceIte, reduceCtorEq, Nat.reduceAdd, Nat.reduceMul, Nat.reduceLeDiff, Nat.reduceLT, Nat.reduceSub, Int.reduceNe, Int.reduceEq, Int.reduceLE, Int.reduceLT, Int.reduceToNat, hsp, hnp, hsc, hnc, d, d2, memE, boxE])))
      ((first | refine retA.ret (by rfl) ?_ | refine retA.normal (by rfl) ?_); simp (disch := omega) only [push_cast, ↓reduceIte, reduceCtorEq, Nat.reduceAdd, Nat.reduceMul, Nat.reduceLeDiff, Nat.reduceLT, Nat.reduceSub, Int.reduceNe, Int.reduceEq, Int.reduceLE, Int.reduceLT, Int.reduceToNat])
      exact ⟨Fr.push M _, by simp [c2]⟩
    · have d2 : decide ((a.comms.length : Int) > 1000) = false := decide_eq_false (by omega)
      (repeat (first | refine st ?_ | (refine And.intro (by omega) ?_) | (refine AL.guT rfl (by first | rfl | assumption) ?_) | ((first | refine AL.ld rfl ?_ | refine AL.bx rfl ?_ | refine AL.pu rfl ?_ | refine AL.guF rfl (by first | rfl | assumption) ?_ | refine AL.skip rfl ?_); simp (disch := omega) only [push_cast, ↓reduceIte, reduceCtorEq, Nat.reduceAdd, Nat.reduceMul, Nat.reduceLeDiff, Nat.reduceLT, Nat.reduceSub, Int.reduceNe, Int.reduceEq, Int.reduceLE, Int.reduceLT, Int.reduceToNat, hsp, hnp, hsc, hnc, d, d2, memE, boxE])))
      ((first | refine retA.ret (by rfl) ?_ | refine retA.normal (by rfl) ?_); simp (disch := omega) only [push_cast, ↓reduceIte, reduceCtorEq, Nat.reduceAdd, Nat.reduceMul, Nat.reduceLeDiff, Nat.reduceLT, Nat.reduceSub, Int.reduceNe, Int.reduceEq, Int.reduceLE, Int.reduceLT, Int.reduceToNat])
      exact ⟨Fr.push M _, by rw [decide_eq_false]; rintro (h | h); exact c1 h; exact c2 h⟩
theorem app0u {M : Mem} {v : Value} {xs : List Int} {C : Value → Mem → Prop} (hv : Sl M v 1 (ints .u32 xs)) (hl : xs.length ≤ 1000000) (h : ∀ v' M', New M M' v' 1 (ints .u32 xs) → Fr M M' [] → C v' M') : appK Try.prog 24 24 (.slice (some ⟨M.length, 0, none⟩) 0 0) v (M ++ [.row true 1 []]) C := by
  have r0 := New.row M (s := 1) (n := 0) (cs := []) (by omega) rfl rfl (by decide)
  refine appK.ints (P := Try.prog) (e := 25) (bt := 4) (z := .int .u32 0) (by kernel_rfl) (by kernel_rfl) (by kernel_rfl) (by kernel_rfl) (by decide) (xs := []) r0.1 (hv.keep (Fr.push M (.row true 1 [])) (by simp)) (by simp; omega) ?_
  intro v' M' hN hF
  rw [List.nil_append] at hN
  exact h v' M' (hN.after (Fr.push M (.row true 1 []))) ((Fr.push M (.row true 1 [])).tr hF)
theorem copy_spec (a : AV) (p c : Value) (M : Mem) (hp : Sl M p 1 (ints .u32 a.path)) (hc : Sl M c 1 (ints .u32 a.comms)) (h1 : a.path.length ≤ 1000000) (h2 : a.comms.length ≤ 1000000) : CallA Try.prog 14 [.agg ⟨avL a p c⟩] M fun r M' => Fr M M' [] ∧ ∃ p' c', r = .agg ⟨avL a p' c'⟩ ∧ Sl M' p' 1 (ints .u32 a.path) ∧ Sl M' c' 1 (ints .u32 a.comms) := by
  have op := isSl_one hp.isSl
  have oc := isSl_one hc.isSl
  simp only [Value.oneCell'] at op oc
  have clc := isSl_cl hc.isSl
  unfold avL
  (refine CallA.of_body Try.func14 rfl (by rfl) ?_; simp only [Try.ntmps14, List.length_cons, List.length_nil, List.replicate, List.cons_append, List.nil_append, Nat.reduceSub, Nat.reduceAdd])
  (repeat (first | refine st ?_ | (refine And.intro (by omega) ?_) | ((first | refine AL.ld rfl ?_ | refine AL.bx rfl ?_ | refine AL.al ?_ | refine AL.lt rfl ?_ | refine AL.st rfl rfl ?_ | refine AL.ap rfl rfl ?_ | refine AL.pu rfl ?_); simp (disch := omega) only [push_cast, ↓reduceIte, reduceCtorEq, Nat.reduceAdd, Nat.reduceMul, Nat.reduceLeDiff, Nat.reduceLT, Nat.reduceSub, Int.reduceNe, Int.reduceEq, Int.reduceLE, Int.reduceLT, Int.reduceToNat, memE, boxE])))
  have F0 := Fr.push2 M (.box [.int .i64 a.origin, p, .int .u32 a.hop, .int .u32 a.med, .int .u32 a.pref, .bool a.hasMed, .bool a.hasPref, c]) (.box [.int .i64 0, .slice none 0 0, .int .u32 0, .int .u32 0, .int .u32 0, .bool false, .bool false, .slice none 0 0])
  have B0 := (At.push M (.box [.int .i64 a.origin, p, .int .u32 a.hop, .int .u32 a.med, .int .u32 a.pref, .bool a.hasMed, .bool a.hasPref, c])).keep (Fr.push _ (.box [.int .i64 0, .slice none 0 0, .int .u32 0, .int .u32 0, .int .u32 0, .bool false, .bool false, .slice none 0 0])) (by simp)
  have C0 := At.push (M ++ [.box [.int .i64 a.origin, p, .int .u32 a.hop, .int .u32 a.med, .int .u32 a.pref, .bool a.hasMed, .bool a.hasPref, c]]) (.box [.int .i64 0, .slice none 0 0, .int .u32 0, .int .u32 0, .int .u32 0, .bool false, .bool false, .slice none 0 0])
  have hcl : M.length < (M ++ [Blk.box [.int .i64 a.origin, p, .int .u32 a.hop, .int .u32 a.med, .int .u32 a.pref, .bool a.hasMed, .bool a.hasPref, c]]).length := by simp
  generalize M ++ [Blk.box [.int .i64 a.origin, p, .int .u32 a.hop, .int .u32 a.med, .int .u32 a.pref, .bool a.hasMed, .bool a.hasPref, c]] ++ [Blk.box [.int .i64 0, .slice none 0 0, .int .u32 0, .int .u32 0, .int .u32 0, .bool false, .bool false, .slice none 0 0]] = M0 at *
  generalize (M ++ [Blk.box [.int .i64 a.origin, p, .int .u32 a.hop, .int .u32 a.med, .int .u32 a.pref, .bool a.hasMed, .bool a.hasPref, c]]).length = cl0 at *
  refine app0u (hp.keep F0 (by simp)) h1 ?_
  intro p' M2 hN2 hF2
  have B2 := B0.keep hF2 (by simp)
  have C2 := C0.keep hF2 (by simp)
  have op' := isSl_one hN2.1.sl.isSl
  simp only [Value.oneCell'] at op'
  have clp := isSl_cl hN2.1.sl.isSl
  have hl2 := B2.lt
  have hM0 := B0.lt
  have hC0 := C0.lt
  have hpb : ∀ b ∈ blkOf p', M0.length ≤ b := hN2.blk
  (repeat (first | refine st ?_ | (refine And.intro (by omega) ?_) | ((first | refine AL.ld rfl ?_ | refine AL.bx rfl ?_ | refine AL.al ?_ | refine AL.lt rfl ?_ | refine AL.st rfl rfl ?_ | refine AL.ap rfl rfl ?_ | refine AL.pu rfl ?_); simp (disch := omega) only [push_cast, ↓reduceIte, reduceCtorEq, Nat.reduceAdd, Nat.reduceMul, Nat.reduceLeDiff, Nat.reduceLT, Nat.reduceSub, Int.reduceNe, Int.reduceEq, Int.reduceLE, Int.reduceLT, Int.reduceToNat, B2.get, op', clp, buildE, boxE])))
  have F3 : Fr M2 (M2.set M.length (.box [.int .i64 a.origin, p', .int .u32 a.hop, .int .u32 a.med, .int .u32 a.pref, .bool a.hasMed, .bool a.hasPref, c])) [M.length] := Fr.set M2 _ _
  have B3 := B2.set (.box [.int .i64 a.origin, p', .int .u32 a.hop, .int .u32 a.med, .int .u32 a.pref, .bool a.hasMed, .bool a.hasPref, c])
  have C3 := C2.keep F3 (by simp; omega)
  have hp3 := hN2.1.sl.keep F3 (fun b h hx => by have := hpb b h; simp at hx; omega)
  have hcb := hc.blks
  have FM3 : Fr M (M2.set M.length (.box [.int .i64 a.origin, p', .int .u32 a.hop, .int .u32 a.med, .int .u32 a.pref, .bool a.hasMed, .bool a.hasPref, c])) [] := ((F0.tr hF2).trans F3).cut (by intro x hx hlt; simp at hx; omega)
  have hc3 := hc.keep FM3 (by simp)
  have hl32 : (M2.set M.length (.box [.int .i64 a.origin, p', .int .u32 a.hop, .int .u32 a.med, .int .u32 a.pref, .bool a.hasMed, .bool a.hasPref, c])).length = M2.length := List.length_set
  generalize M2.set M.length (.box [.int .i64 a.origin, p', .int .u32 a.hop, .int .u32 a.med, .int .u32 a.pref, .bool a.hasMed, .bool a.hasPref, c]) = M3 at *
  have B3r := B3.keep (Fr.push M3 (.row true 1 [])) (by simp)
  simp (disch := omega) only [push_cast, ↓reduceIte, reduceCtorEq, Nat.reduceAdd, Nat.reduceMul, Nat.reduceLeDiff, Nat.reduceLT, Nat.reduceSub, Int.reduceNe, Int.reduceEq, Int.reduceLE, Int.reduceLT, Int.reduceToNat, B3r.ld, boxE]
  (repeat (first | refine st ?_ | (refine And.intro (by omega) ?_) | ((first | refine AL.ld rfl ?_ | refine AL.bx rfl ?_ | refine AL.al ?_ | refine AL.lt rfl ?_ | refine AL.st rfl rfl ?_ | refine AL.ap rfl rfl ?_ | refine AL.pu rfl ?_); simp (disch := omega) only [push_cast, ↓reduceIte, reduceCtorEq, Nat.reduceAdd, Nat.reduceMul, Nat.reduceLeDiff, Nat.reduceLT, Nat.reduceSub, Int.reduceNe, Int.reduceEq, Int.reduceLE, Int.reduceLT, Int.reduceToNat])))
  rw [← hl32]
  refine app0u hc3 h2 ?_
  intro c' M4 hN4 hF4
  have B4 := B3.keep hF4 (by simp)
  have C4 := C3.keep hF4 (by simp)
  have oc' := isSl_one hN4.1.sl.isSl
  simp only [Value.oneCell'] at oc'
  have clc' := isSl_cl hN4.1.sl.isSl
  have hl4 := B4.lt
  have hl3 := B3.lt
  have hcb' : ∀ b ∈ blkOf c', M3.length ≤ b := hN4.blk
  have hlc3 := C3.lt
  have hlc4 := C4.lt
  have hpb3 := hp3.blks
  (repeat (first | refine st ?_ | (refine And.intro (by omega) ?_) | ((first | refine AL.ld rfl ?_ | refine AL.bx rfl ?_ | refine AL.al ?_ | refine AL.lt rfl ?_ | refine AL.st rfl rfl ?_ | refine AL.ap rfl rfl ?_ | refine AL.pu rfl ?_); simp (disch := omega) only [push_cast, ↓reduceIte, reduceCtorEq, Nat.reduceAdd, Nat.reduceMul, Nat.reduceLeDiff, Nat.reduceLT, Nat.reduceSub, Int.reduceNe, Int.reduceEq, Int.reduceLE, Int.reduceLT, Int.reduceToNat, B4.get, oc', clc', buildE, boxE])))
  have F5 : Fr M4 (M4.set M.length (.box [.int .i64 a.origin, p', .int .u32 a.hop, .int .u32 a.med, .int .u32 a.pref, .bool a.hasMed, .bool a.hasPref, c'])) [M.length] := Fr.set M4 _ _
  have B5 := B4.set (.box [.int .i64 a.origin, p', .int .u32 a.hop, .int .u32 a.med, .int .u32 a.pref, .bool a.hasMed, .bool a.hasPref, c'])
  have C5 := C4.keep F5 (by simp; omega)
  have hp5 := (hp3.keep hF4 (by simp)).keep F5 (fun b h hx => by have := hpb b h; simp at hx; omega)
  have hc5 := hN4.1.sl.keep F5 (fun b h hx => by have := hcb' b h; simp at hx; omega)
  have FM5 : Fr M (M4.set M.length (.box [.int .i64 a.origin, p', .int .u32 a.hop, .int .u32 a.med, .int .u32 a.pref, .bool a.hasMed, .bool a.hasPref, c'])) [] := ((FM3.tr hF4).trans F5).cut (by intro x hx hlt; simp at hx; omega)
  generalize M4.set M.length (.box [.int .i64 a.origin, p', .int .u32 a.hop, .int .u32 a.med, .int .u32 a.pref, .bool a.hasMed, .bool a.hasPref, c']) = M5 at *
  have hlc5 := C5.lt
  have c5g := C5.get
  (repeat (first | refine st ?_ | (refine And.intro (by omega) ?_) | ((first | refine AL.ld rfl ?_ | refine AL.bx rfl ?_ | refine AL.al ?_ | refine AL.lt rfl ?_ | refine AL.st rfl rfl ?_ | refine AL.ap rfl rfl ?_ | refine AL.pu rfl ?_); simp (disch := omega) only [push_cast, ↓reduceIte, reduceCtorEq, Nat.reduceAdd, Nat.reduceMul, Nat.reduceLeDiff, Nat.reduceLT, Nat.reduceSub, Int.reduceNe, Int.reduceEq, Int.reduceLE, Int.reduceLT, Int.reduceToNat, B5.ld, c5g, op', oc', buildE, boxE])))
  simp only [c5g, op', boxE]
  simp (disch := omega) only [push_cast, ↓reduceIte, reduceCtorEq, Nat.reduceAdd, Nat.reduceMul, Nat.reduceLeDiff, Nat.reduceLT, Nat.reduceSub, Int.reduceNe, Int.reduceEq, Int.reduceLE, Int.reduceLT, Int.reduceToNat, buildE, boxE]
  (repeat (first | refine st ?_ | (refine And.intro (by omega) ?_) | ((first | refine AL.ld rfl ?_ | refine AL.bx rfl ?_ | refine AL.al ?_ | refine AL.lt rfl ?_ | refine AL.st rfl rfl ?_ | refine AL.ap rfl rfl ?_ | refine AL.pu rfl ?_); simp (disch := omega) only [push_cast, ↓reduceIte, reduceCtorEq, Nat.reduceAdd, Nat.reduceMul, Nat.reduceLeDiff, Nat.reduceLT, Nat.reduceSub, Int.reduceNe, Int.reduceEq, Int.reduceLE, Int.reduceLT, Int.reduceToNat])))
  ((first | refine retA.ret (by rfl) ?_ | refine retA.normal (by rfl) ?_); simp (disch := omega) only [push_cast, ↓reduceIte, reduceCtorEq, Nat.reduceAdd, Nat.reduceMul, Nat.reduceLeDiff, Nat.reduceLT, Nat.reduceSub, Int.reduceNe, Int.reduceEq, Int.reduceLE, Int.reduceLT, Int.reduceToNat, boxE])
  refine ⟨(FM5.trans (Fr.set M5 cl0 _)).cut (by intro x hx hlt; simp at hx; omega), p', c', rfl, hp5.keep (Fr.set M5 cl0 _) (fun b h hx => by have := hpb b h; simp at hx; omega), hc5.keep (Fr.set M5 cl0 _) (fun b h hx => by have := hcb' b h; simp at hx; omega)⟩

end Go.Proofs.Ytbjipdmbdabniaa.Ax
