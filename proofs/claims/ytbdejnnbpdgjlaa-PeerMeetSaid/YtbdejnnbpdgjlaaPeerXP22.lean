/- Contracts of functions over the abstract machine. No conditions: lemmas alone. -/
import Derived.Test.YtbdejnnbpdgjlaaPeerXLibD
import Derived.Test.YtbdejnnbpdgjlaaPeerXP0
import Derived.Test.YtbdejnnbpdgjlaaPeerXP17
import Derived.Test.YtbdejnnbpdgjlaaPeerXP15
namespace Go.Proofs.Ytbdejnnbpdgjlaa.Ax
open Go Go.RowKit
open Nat renaming reduceAdd → ν1, reduceMul → ν2, reduceLeDiff → ν3, reduceLT → ν4, reduceSub → ν5
open Int renaming reduceNe → ζ1, reduceEq → ζ2, reduceLE → ζ3, reduceLT → ζ4, reduceToNat → ζ5
set_option linter.unusedVariables false
set_option linter.unusedSimpArgs false
set_option maxRecDepth 100000
set_option maxHeartbeats 20000000
attribute [local irreducible] thenA blockA scopeA retA AL AW AD ADL AH clrK CallA apure aload bload appK ptrK fnK ares szOk planOk okOps
theorem d96_Ms6 {g n : Prop} (k : n) (h : n → g := by first | exact AW.dr (id := 1) (by rfl) [0, 1, 2, 3, 4] (by kernel_rfl) (by kernel_rfl)) : g := h k
theorem a96_Ms6 {g n : Prop} (k : n) (h : n → g := by first | exact AH.ca (dst := some 5) rfl) : g := h k
theorem rc_spec (p : PX) (M : Mem) (h0 : goodX p) : CallA Try.prog 96 [.agg ⟨[.int .u32 p.1, .int .i64 p.2]⟩] M fun r M' => Fr M M' [] ∧ r = .bool (decide (¬ rightX p)) := by
 (refine CallA.of_body Try.func96 rfl (by rfl) ?_; simp only [Try.ntmps96, List.length_cons, List.length_nil, List.replicate, List.cons_append, List.nil_append, Nat.reduceSub, Nat.reduceAdd])
 (repeat (first | refine st ?_ | refine σa ?_ | refine d96_Ms6 ?_ | ((first | refine a96_Ms6 ?_ | refine σb ?_ | refine σc ?_); simp (disch := omega) only [push_cast, ↓reduceIte, reduceCtorEq, ν1, ν2, ν3, ν4, ν5, ζ1, ζ2, ζ3, ζ4, ζ5, buildE, memE, boxE])))
 refine (gmask_spec p _ h0).mono ?_
 rintro r M2 ⟨hF2, rfl⟩
 have pe := px_eq p (maskP p)
 (repeat (first | refine st ?_ | refine σa ?_ | refine d96_Ms6 ?_ | ((first | refine a96_Ms6 ?_ | refine σb ?_ | refine σc ?_); simp (disch := omega) only [push_cast, ↓reduceIte, reduceCtorEq, ν1, ν2, ν3, ν4, ν5, ζ1, ζ2, ζ3, ζ4, ζ5, pe])))
 ((first | refine retA.ret (by rfl) ?_ | refine retA.normal (by rfl) ?_); simp (disch := omega) only [push_cast, ↓reduceIte, reduceCtorEq, Nat.reduceAdd, Nat.reduceMul, Nat.reduceLeDiff, Nat.reduceLT, Nat.reduceSub, Int.reduceNe, Int.reduceEq, Int.reduceLE, Int.reduceLT, Int.reduceToNat])
 refine ⟨(Fr.push M _).tr hF2, congrArg _ ?_⟩
 by_cases c : rightX p
 ·rw [decide_eq_false (not_not_intro c), decide_eq_true (show p = maskP p from c)]; rfl
 ·rw [decide_eq_true c, decide_eq_false (show ¬ p = maskP p from c)]; rfl
theorem ixf_spec (v : Value) (l : List PX) (M : Mem) (hv : Sl M v 2 (pxs l)) (hg : ∀ p ∈ l, goodX p) (hl : l.length ≤ 1000000) : CallA Try.prog 126 [v, .func (.func 96) #[] #[]] M fun r M' => Fr M M' [] ∧ ∃ k : Int, r = .int .i64 k ∧ (0 ≤ k ↔ ¬ ∀ p ∈ l, rightX p) := by
 have hs := hv.isSl
 have hn := hv.lnX
 (refine CallA.of_body Try.func126 rfl (by rfl) ?_; simp only [Try.ntmps126, List.length_cons, List.length_nil, List.replicate, List.cons_append, List.nil_append, Nat.reduceSub, Nat.reduceAdd])
 (repeat (first | refine st ?_ | refine σa ?_ | (refine σb ?_; simp (disch := omega) only [push_cast, ↓reduceIte, reduceCtorEq, ν1, ν2, ν3, ν4, ν5, ζ1, ζ2, ζ3, ζ4, ζ5, hs, hn])))
 refine AW.loopF [4, 5, 8, 9, 10, 11, 12, 13, 14, 15, 16, 17, 18] (fun n g M' => ∃ i : Nat, g 8 = .int .i64 i ∧ i + n = l.length ∧ (∀ p ∈ l.take i, rightX p) ∧ Fr M M' []) l.length ?_ ?_
 ·exact ⟨0, rfl, by omega, by simp, Fr.refl M⟩
 rintro n g M1 ⟨i, h8, hi, hall, hF⟩
 simp (disch := omega) only [push_cast, ↓reduceIte, reduceCtorEq, Nat.reduceAdd, Nat.reduceMul, Nat.reduceLeDiff, Nat.reduceLT, Nat.reduceSub, Int.reduceNe, Int.reduceEq, Int.reduceLE, Int.reduceLT, Int.reduceToNat, h8]
 (repeat (first | refine st ?_ | refine σa ?_ | (refine σb ?_; simp (disch := omega) only [push_cast, ↓reduceIte, reduceCtorEq, ν1, ν2, ν3, ν4, ν5, ζ1, ζ2, ζ3, ζ4, ζ5])))
 ((first | refine AL.gu rfl (fun hlt => ?_) (fun hlt => ?_) | refine AW.condS rfl rfl (fun hlt => ?_) (fun hlt => ?_)) <;> (try (have hlt' := hlt; simp only [Bool.not_eq_true', Bool.not_eq_false', Bool.not_true, Bool.not_false, decide_eq_true_eq, decide_eq_false_iff_not, Classical.not_not, Int.not_lt, Int.not_le, gt_iff_lt, ge_iff_le, beq_iff_eq] at hlt')))
 ·have hil : i < l.length := by omega
  have hld := (hv.keep hF (by simp)).ldX (i := i) hil
  obtain ⟨p, hp⟩ : ∃ p, p = l.getD i (0, 0) := ⟨_, rfl⟩
  have hpm : p ∈ l := by rw [hp, List.getD_eq_getElem?_getD, List.getElem?_eq_getElem hil]; exact List.getElem_mem hil
  have htk : l.take (i + 1) = l.take i ++ [p] := by rw [List.take_add_one, List.getElem?_eq_getElem hil, hp, List.getD_eq_getElem?_getD, List.getElem?_eq_getElem hil]; rfl
  rw [← hp] at hld
  (repeat (first | refine st ?_ | refine σa ?_ | (refine σb ?_; simp (disch := omega) only [push_cast, ↓reduceIte, reduceCtorEq, ν1, ν2, ν3, ν4, ν5, ζ1, ζ2, ζ3, ζ4, ζ5, hs, hn, hld, Int.toNat_natCast])))
  refine (rc_spec p _ (hg p hpm)).mono ?_
  rintro r M2 ⟨hF2, rfl⟩
  by_cases c : rightX p
  ·have d : decide (¬ rightX p) = false := decide_eq_false (by simp [c])
   rw [d]
   (repeat (first | refine st ?_ | refine σa ?_ | (refine σb ?_; simp (disch := omega) only [push_cast, ↓reduceIte, reduceCtorEq, ν1, ν2, ν3, ν4, ν5, ζ1, ζ2, ζ3, ζ4, ζ5])))
   refine ⟨rfl, n - 1, by omega, i + 1, by simp (disch := omega) only [push_cast, ↓reduceIte, reduceCtorEq, Nat.reduceAdd, Nat.reduceMul, Nat.reduceLeDiff, Nat.reduceLT, Nat.reduceSub, Int.reduceNe, Int.reduceEq, Int.reduceLE, Int.reduceLT, Int.reduceToNat, w_i64], by omega, ?_, hF.tr hF2⟩
   rw [htk]
   intro q hq
   rcases List.mem_append.1 hq with h | h
   ·exact hall q h
   ·rw [List.mem_singleton.1 h]; exact c
  ·have d : decide (¬ rightX p) = true := decide_eq_true c
   rw [d]
   (repeat (first | refine st ?_ | refine σa ?_ | (refine σb ?_; simp (disch := omega) only [push_cast, ↓reduceIte, reduceCtorEq, ν1, ν2, ν3, ν4, ν5, ζ1, ζ2, ζ3, ζ4, ζ5])))
   ((first | refine retA.ret (by rfl) ?_ | refine retA.normal (by rfl) ?_); simp (disch := omega) only [push_cast, ↓reduceIte, reduceCtorEq, Nat.reduceAdd, Nat.reduceMul, Nat.reduceLeDiff, Nat.reduceLT, Nat.reduceSub, Int.reduceNe, Int.reduceEq, Int.reduceLE, Int.reduceLT, Int.reduceToNat])
   exact ⟨hF.tr hF2, i, rfl, ⟨fun _ h => c (h p hpm), fun _ => by omega⟩⟩
 ·(repeat (first | refine st ?_ | refine σa ?_ | (refine σb ?_; simp (disch := omega) only [push_cast, ↓reduceIte, reduceCtorEq, ν1, ν2, ν3, ν4, ν5, ζ1, ζ2, ζ3, ζ4, ζ5])))
  ((first | refine retA.ret (by rfl) ?_ | refine retA.normal (by rfl) ?_); simp (disch := omega) only [push_cast, ↓reduceIte, reduceCtorEq, Nat.reduceAdd, Nat.reduceMul, Nat.reduceLeDiff, Nat.reduceLT, Nat.reduceSub, Int.reduceNe, Int.reduceEq, Int.reduceLE, Int.reduceLT, Int.reduceToNat])
  obtain rfl : i = l.length := by omega
  rw [List.take_length] at hall
  exact ⟨hF, -1, rfl, ⟨fun h => absurd h (by decide), fun h => absurd hall h⟩⟩
theorem cf_spec (v : Value) (l : List PX) (M : Mem) (hv : Sl M v 2 (pxs l)) (hg : ∀ p ∈ l, goodX p) (hl : l.length ≤ 1000000) : CallA Try.prog 97 [v, .func (.func 96) #[] #[]] M fun r M' => Fr M M' [] ∧ r = .bool (!decide (∀ p ∈ l, rightX p)) := by
 (refine CallA.of_body Try.func97 rfl (by rfl) ?_; simp only [Try.ntmps97, List.length_cons, List.length_nil, List.replicate, List.cons_append, List.nil_append, Nat.reduceSub, Nat.reduceAdd])
 (repeat (first | refine st ?_ | refine σa ?_ | (refine σb ?_; simp (disch := omega) only [push_cast, ↓reduceIte, reduceCtorEq, ν1, ν2, ν3, ν4, ν5, ζ1, ζ2, ζ3, ζ4, ζ5])))
 refine (ixf_spec v l M hv hg hl).mono ?_
 rintro r M2 ⟨hF, k, rfl, hk⟩
 (repeat (first | refine st ?_ | refine σa ?_ | (refine σb ?_; simp (disch := omega) only [push_cast, ↓reduceIte, reduceCtorEq, ν1, ν2, ν3, ν4, ν5, ζ1, ζ2, ζ3, ζ4, ζ5])))
 ((first | refine retA.ret (by rfl) ?_ | refine retA.normal (by rfl) ?_); simp (disch := omega) only [push_cast, ↓reduceIte, reduceCtorEq, Nat.reduceAdd, Nat.reduceMul, Nat.reduceLeDiff, Nat.reduceLT, Nat.reduceSub, Int.reduceNe, Int.reduceEq, Int.reduceLE, Int.reduceLT, Int.reduceToNat])
 refine ⟨hF, congrArg _ ?_⟩
 by_cases c : ∀ p ∈ l, rightX p
 ·rw [decide_eq_true c, decide_eq_false (fun h => hk.1 h c)]; rfl
 ·rw [decide_eq_false c, decide_eq_true (hk.2 c)]; rfl
theorem mright_spec (m : MV) (g a c nw d : Value) (M : Mem) (hi : MVin M m g a c nw d) (hg : goodM m) (hz : sizeM m) :
  CallA Try.prog 61 [.agg ⟨mvL m g a c nw d⟩] M fun r M' => Fr M M' [] ∧ r = .bool (decide (rightM m)) := by
 have ha := hg.1
 have P0 := Fr.push M (.box (mvL m g a c nw d))
 have B0 := At.push M (.box (mvL m g a c nw d))
 (refine CallA.of_body Try.func61 rfl (by rfl) ?_; simp only [Try.ntmps61, List.length_cons, List.length_nil, List.replicate, List.cons_append, List.nil_append, Nat.reduceSub, Nat.reduceAdd])
 by_cases k1 : m.kind = 1
 ·have d1 : decide (m.kind = 1) = true := decide_eq_true k1
  have er : rightM m ↔ m.asn ≠ 0 ∧ m.id ≠ 0 ∧ (m.hold = 0 ∨ (3 ≤ m.hold ∧ m.hold ≤ 65535)) := by unfold rightM; rw [if_pos k1]
  by_cases c1 : m.asn = 0
  ·have e1 : decide (m.asn = 0) = true := decide_eq_true c1
   (repeat (first | refine st ?_ | refine σa ?_ | (refine σb ?_; simp (disch := omega) only [push_cast, ↓reduceIte, reduceCtorEq, ν1, ν2, ν3, ν4, ν5, ζ1, ζ2, ζ3, ζ4, ζ5, mvL_ld, d1, e1, Bool.not_true, Bool.not_false, buildE, memE, boxE])))
   ((first | refine retA.ret (by rfl) ?_ | refine retA.normal (by rfl) ?_); simp (disch := omega) only [push_cast, ↓reduceIte, reduceCtorEq, Nat.reduceAdd, Nat.reduceMul, Nat.reduceLeDiff, Nat.reduceLT, Nat.reduceSub, Int.reduceNe, Int.reduceEq, Int.reduceLE, Int.reduceLT, Int.reduceToNat])
   exact ⟨P0, by rw [decide_eq_false]; rw [er]; exact fun h => h.1 c1⟩
  have e1 : decide (m.asn = 0) = false := decide_eq_false c1
  by_cases c2 : m.id = 0
  ·have e2 : decide (m.id = 0) = true := decide_eq_true c2
   (repeat (first | refine st ?_ | refine σa ?_ | (refine σb ?_; simp (disch := omega) only [push_cast, ↓reduceIte, reduceCtorEq, ν1, ν2, ν3, ν4, ν5, ζ1, ζ2, ζ3, ζ4, ζ5, mvL_ld, d1, e1, e2, Bool.not_true, Bool.not_false, buildE, memE, boxE])))
   ((first | refine retA.ret (by rfl) ?_ | refine retA.normal (by rfl) ?_); simp (disch := omega) only [push_cast, ↓reduceIte, reduceCtorEq, Nat.reduceAdd, Nat.reduceMul, Nat.reduceLeDiff, Nat.reduceLT, Nat.reduceSub, Int.reduceNe, Int.reduceEq, Int.reduceLE, Int.reduceLT, Int.reduceToNat])
   exact ⟨P0, by rw [decide_eq_false]; rw [er]; exact fun h => h.2.1 c2⟩
  have e2 : decide (m.id = 0) = false := decide_eq_false c2
  by_cases c3 : m.hold = 0
  ·have e3 : decide (m.hold = 0) = true := decide_eq_true c3
   (repeat (first | refine st ?_ | refine σa ?_ | (refine σb ?_; simp (disch := omega) only [push_cast, ↓reduceIte, reduceCtorEq, ν1, ν2, ν3, ν4, ν5, ζ1, ζ2, ζ3, ζ4, ζ5, mvL_ld, d1, e1, e2, e3, Bool.not_true, Bool.not_false, buildE, memE, boxE])))
   ((first | refine retA.ret (by rfl) ?_ | refine retA.normal (by rfl) ?_); simp (disch := omega) only [push_cast, ↓reduceIte, reduceCtorEq, Nat.reduceAdd, Nat.reduceMul, Nat.reduceLeDiff, Nat.reduceLT, Nat.reduceSub, Int.reduceNe, Int.reduceEq, Int.reduceLE, Int.reduceLT, Int.reduceToNat])
   exact ⟨P0, by rw [decide_eq_true]; rw [er]; exact ⟨c1, c2, .inl c3⟩⟩
  have e3 : decide (m.hold = 0) = false := decide_eq_false c3
  by_cases c4 : m.hold ≥ 3
  rotate_left
  ·have e4 : decide (m.hold ≥ 3) = false := decide_eq_false c4
   (repeat (first | refine st ?_ | refine σa ?_ | (refine σb ?_; simp (disch := omega) only [push_cast, ↓reduceIte, reduceCtorEq, ν1, ν2, ν3, ν4, ν5, ζ1, ζ2, ζ3, ζ4, ζ5, mvL_ld, d1, e1, e2, e3, e4, Bool.not_true, Bool.not_false, buildE, memE, boxE])))
   ((first | refine retA.ret (by rfl) ?_ | refine retA.normal (by rfl) ?_); simp (disch := omega) only [push_cast, ↓reduceIte, reduceCtorEq, Nat.reduceAdd, Nat.reduceMul, Nat.reduceLeDiff, Nat.reduceLT, Nat.reduceSub, Int.reduceNe, Int.reduceEq, Int.reduceLE, Int.reduceLT, Int.reduceToNat])
   exact ⟨P0, by rw [decide_eq_false]; rw [er]; omega⟩
  have e4 : decide (m.hold ≥ 3) = true := decide_eq_true c4
  have wi : IntKind.i64.wrap (m.hold % 65536) = m.hold % 65536 := w_i64 (by omega) (by omega)
  (repeat (first | refine st ?_ | refine σa ?_ | (refine σb ?_; simp (disch := omega) only [push_cast, ↓reduceIte, reduceCtorEq, ν1, ν2, ν3, ν4, ν5, ζ1, ζ2, ζ3, ζ4, ζ5, mvL_ld, d1, e1, e2, e3, e4, wm_u16, wi, Bool.not_true, Bool.not_false, buildE, memE, boxE])))
  ((first | refine retA.ret (by rfl) ?_ | refine retA.normal (by rfl) ?_); simp (disch := omega) only [push_cast, ↓reduceIte, reduceCtorEq, Nat.reduceAdd, Nat.reduceMul, Nat.reduceLeDiff, Nat.reduceLT, Nat.reduceSub, Int.reduceNe, Int.reduceEq, Int.reduceLE, Int.reduceLT, Int.reduceToNat])
  exact ⟨P0, congrArg _ (by rw [decide_eq_decide, er]; omega)⟩
 have d1 : decide (m.kind = 1) = false := decide_eq_false k1
 by_cases k3 : m.kind = 3
 ·have d2 : decide (m.kind = 2) = false := decide_eq_false (by omega)
  have d3 : decide (m.kind = 3) = true := decide_eq_true k3
  have er : rightM m ↔ 0 ≤ m.code ∧ m.code ≤ 255 ∧ 0 ≤ m.sub ∧ m.sub ≤ 255 := by unfold rightM; rw [if_neg k1, if_neg (by omega), if_pos k3]
  (repeat (first | refine st ?_ | refine σa ?_ | (refine σb ?_; simp (disch := omega) only [push_cast, ↓reduceIte, reduceCtorEq, ν1, ν2, ν3, ν4, ν5, ζ1, ζ2, ζ3, ζ4, ζ5, mvL_ld, d1, d2, d3, Bool.not_true, Bool.not_false, buildE, memE, boxE])))
  refine (octet_spec m.code _).mono ?_
  rintro r M2 ⟨rfl, rfl⟩
  by_cases c1 : 0 ≤ m.code ∧ m.code ≤ 255
  ·have e1 : decide (0 ≤ m.code ∧ m.code ≤ 255) = true := decide_eq_true c1
   rw [e1]
   (repeat (first | refine st ?_ | refine σa ?_ | (refine σb ?_; simp (disch := omega) only [push_cast, ↓reduceIte, reduceCtorEq, ν1, ν2, ν3, ν4, ν5, ζ1, ζ2, ζ3, ζ4, ζ5, mvL_ld, buildE, memE, boxE])))
   refine (octet_spec m.sub _).mono ?_
   rintro r M2 ⟨rfl, rfl⟩
   (repeat (first | refine st ?_ | refine σa ?_ | (refine σb ?_; simp (disch := omega) only [push_cast, ↓reduceIte, reduceCtorEq, ν1, ν2, ν3, ν4, ν5, ζ1, ζ2, ζ3, ζ4, ζ5])))
   ((first | refine retA.ret (by rfl) ?_ | refine retA.normal (by rfl) ?_); simp (disch := omega) only [push_cast, ↓reduceIte, reduceCtorEq, Nat.reduceAdd, Nat.reduceMul, Nat.reduceLeDiff, Nat.reduceLT, Nat.reduceSub, Int.reduceNe, Int.reduceEq, Int.reduceLE, Int.reduceLT, Int.reduceToNat])
   exact ⟨P0, congrArg _ (by rw [decide_eq_decide, er]; omega)⟩
  ·have e1 : decide (0 ≤ m.code ∧ m.code ≤ 255) = false := decide_eq_false c1
   rw [e1]
   (repeat (first | refine st ?_ | refine σa ?_ | (refine σb ?_; simp (disch := omega) only [push_cast, ↓reduceIte, reduceCtorEq, ν1, ν2, ν3, ν4, ν5, ζ1, ζ2, ζ3, ζ4, ζ5])))
   ((first | refine retA.ret (by rfl) ?_ | refine retA.normal (by rfl) ?_); simp (disch := omega) only [push_cast, ↓reduceIte, reduceCtorEq, Nat.reduceAdd, Nat.reduceMul, Nat.reduceLeDiff, Nat.reduceLT, Nat.reduceSub, Int.reduceNe, Int.reduceEq, Int.reduceLE, Int.reduceLT, Int.reduceToNat])
   exact ⟨P0, by rw [decide_eq_false]; rw [er]; omega⟩
 by_cases k2 : m.kind = 2
 rotate_left
 ·have d2 : decide (m.kind = 2) = false := decide_eq_false k2
  have d3 : decide (m.kind = 3) = false := decide_eq_false k3
  (repeat (first | refine st ?_ | refine σa ?_ | (refine σb ?_; simp (disch := omega) only [push_cast, ↓reduceIte, reduceCtorEq, ν1, ν2, ν3, ν4, ν5, ζ1, ζ2, ζ3, ζ4, ζ5, mvL_ld, d1, d2, d3, Bool.not_true, Bool.not_false, buildE, memE, boxE])))
  ((first | refine retA.ret (by rfl) ?_ | refine retA.normal (by rfl) ?_); simp (disch := omega) only [push_cast, ↓reduceIte, reduceCtorEq, Nat.reduceAdd, Nat.reduceMul, Nat.reduceLeDiff, Nat.reduceLT, Nat.reduceSub, Int.reduceNe, Int.reduceEq, Int.reduceLE, Int.reduceLT, Int.reduceToNat])
  exact ⟨P0, by rw [decide_eq_true]; unfold rightM; rw [if_neg k1, if_neg k2, if_neg k3]; trivial⟩
 have d2 : decide (m.kind = 2) = true := decide_eq_true k2
 have er : rightM m ↔ (∀ p ∈ m.gone, rightX p) ∧ (∀ p ∈ m.new, rightX p) ∧ (m.new = [] ∨ rightP m.attrs) := by unfold rightM; rw [if_neg k1, if_pos k2]
 obtain ⟨z1, z2, z3, z4, z5⟩ := hz
 (repeat (first | refine st ?_ | refine σa ?_ | (refine σb ?_; simp (disch := omega) only [push_cast, ↓reduceIte, reduceCtorEq, ν1, ν2, ν3, ν4, ν5, ζ1, ζ2, ζ3, ζ4, ζ5, mvL_ld, d1, d2, Bool.not_true, Bool.not_false, buildE, memE, boxE])))
 generalize M ++ [Blk.box (mvL m g a c nw d)] = M0 at *
 refine (cf_spec g m.gone M0 (hi.gone.keep P0 (by simp)) hg.2.2.1 (by omega)).mono ?_
 rintro r M1 ⟨f1, rfl⟩
 have B1 := B0.keep f1 (by simp)
 have F1 := P0.tr f1
 by_cases c1 : ∀ p ∈ m.gone, rightX p
 rotate_left
 ·rw [decide_eq_false c1]
  (repeat (first | refine st ?_ | refine σa ?_ | (refine σb ?_; simp (disch := omega) only [push_cast, ↓reduceIte, reduceCtorEq, ν1, ν2, ν3, ν4, ν5, ζ1, ζ2, ζ3, ζ4, ζ5, Bool.not_true, Bool.not_false])))
  ((first | refine retA.ret (by rfl) ?_ | refine retA.normal (by rfl) ?_); simp (disch := omega) only [push_cast, ↓reduceIte, reduceCtorEq, Nat.reduceAdd, Nat.reduceMul, Nat.reduceLeDiff, Nat.reduceLT, Nat.reduceSub, Int.reduceNe, Int.reduceEq, Int.reduceLE, Int.reduceLT, Int.reduceToNat])
  exact ⟨F1, by rw [decide_eq_false]; rw [er]; exact fun h => c1 h.1⟩
 rw [decide_eq_true c1]
 (repeat (first | refine st ?_ | refine σa ?_ | (refine σb ?_; simp (disch := omega) only [push_cast, ↓reduceIte, reduceCtorEq, ν1, ν2, ν3, ν4, ν5, ζ1, ζ2, ζ3, ζ4, ζ5, B1.ld, mvL_ld, Bool.not_true, Bool.not_false, buildE])))
 refine (cf_spec nw m.new M1 ((hi.new.keep P0 (by simp)).keep f1 (by simp)) hg.2.2.2.1 (by omega)).mono ?_
 rintro r M2 ⟨f2, rfl⟩
 have B2 := B1.keep f2 (by simp)
 have F2 := F1.tr f2
 by_cases c2 : ∀ p ∈ m.new, rightX p
 rotate_left
 ·rw [decide_eq_false c2]
  (repeat (first | refine st ?_ | refine σa ?_ | (refine σb ?_; simp (disch := omega) only [push_cast, ↓reduceIte, reduceCtorEq, ν1, ν2, ν3, ν4, ν5, ζ1, ζ2, ζ3, ζ4, ζ5, Bool.not_true, Bool.not_false])))
  ((first | refine retA.ret (by rfl) ?_ | refine retA.normal (by rfl) ?_); simp (disch := omega) only [push_cast, ↓reduceIte, reduceCtorEq, Nat.reduceAdd, Nat.reduceMul, Nat.reduceLeDiff, Nat.reduceLT, Nat.reduceSub, Int.reduceNe, Int.reduceEq, Int.reduceLE, Int.reduceLT, Int.reduceToNat])
  exact ⟨F2, by rw [decide_eq_false]; rw [er]; exact fun h => c2 h.2.1⟩
 rw [decide_eq_true c2]
 have sn := hi.new.isSl
 have ln := hi.new.lnX
 by_cases c3 : m.new = []
 ·have e3 : decide ((m.new.length : Int) = 0) = true := decide_eq_true (by rw [c3]; rfl)
  (repeat (first | refine st ?_ | refine σa ?_ | (refine σb ?_; simp (disch := omega) only [push_cast, ↓reduceIte, reduceCtorEq, ν1, ν2, ν3, ν4, ν5, ζ1, ζ2, ζ3, ζ4, ζ5, B2.ld, mvL_ld, sn, ln, e3, Bool.not_true, Bool.not_false, buildE])))
  ((first | refine retA.ret (by rfl) ?_ | refine retA.normal (by rfl) ?_); simp (disch := omega) only [push_cast, ↓reduceIte, reduceCtorEq, Nat.reduceAdd, Nat.reduceMul, Nat.reduceLeDiff, Nat.reduceLT, Nat.reduceSub, Int.reduceNe, Int.reduceEq, Int.reduceLE, Int.reduceLT, Int.reduceToNat])
  exact ⟨F2, by rw [decide_eq_true]; rw [er]; exact ⟨c1, c2, .inl c3⟩⟩
 have e3 : decide ((m.new.length : Int) = 0) = false := decide_eq_false (by have := List.length_pos_iff.2 c3; omega)
 (repeat (first | refine st ?_ | refine σa ?_ | (refine σb ?_; simp (disch := omega) only [push_cast, ↓reduceIte, reduceCtorEq, ν1, ν2, ν3, ν4, ν5, ζ1, ζ2, ζ3, ζ4, ζ5, B2.ld, mvL_ld, sn, ln, e3, Bool.not_true, Bool.not_false, buildE])))
 refine (right_spec m.attrs a c M2 (hi.path.keep F2 (by simp)) (hi.comms.keep F2 (by simp)) (by omega) (by omega)).mono ?_
 rintro r M3 ⟨f3, rfl⟩
 (repeat (first | refine st ?_ | refine σa ?_ | (refine σb ?_; simp (disch := omega) only [push_cast, ↓reduceIte, reduceCtorEq, ν1, ν2, ν3, ν4, ν5, ζ1, ζ2, ζ3, ζ4, ζ5])))
 ((first | refine retA.ret (by rfl) ?_ | refine retA.normal (by rfl) ?_); simp (disch := omega) only [push_cast, ↓reduceIte, reduceCtorEq, Nat.reduceAdd, Nat.reduceMul, Nat.reduceLeDiff, Nat.reduceLT, Nat.reduceSub, Int.reduceNe, Int.reduceEq, Int.reduceLE, Int.reduceLT, Int.reduceToNat])
 refine ⟨F2.tr f3, ?_⟩
 have : (rightM m) ↔ rightP m.attrs := by rw [er]; exact ⟨fun h => by rcases h.2.2 with h | h; exact absurd h c3; exact h, fun h => ⟨c1, c2, .inr h⟩⟩
 simp [this]
end Go.Proofs.Ytbdejnnbpdgjlaa.Ax
