/- Contracts of functions over the abstract machine. No conditions: lemmas alone. -/
import Derived.Test.YtbdejnnbpdgjlaaPeerXLibD
import Derived.Test.YtbdejnnbpdgjlaaPeerXP0
import Derived.Test.YtbdejnnbpdgjlaaPeerXP26
import Derived.Test.YtbdejnnbpdgjlaaPeerXP17
namespace Go.Proofs.Ytbdejnnbpdgjlaa.Ax
open Go Go.RowKit
open Nat renaming reduceAdd → ν1, reduceMul → ν2, reduceLeDiff → ν3, reduceLT → ν4, reduceSub → ν5
open Int renaming reduceNe → ζ1, reduceEq → ζ2, reduceLE → ζ3, reduceLT → ζ4, reduceToNat → ζ5
set_option linter.unusedVariables false
set_option linter.unusedSimpArgs false
set_option maxRecDepth 100000
set_option maxHeartbeats 20000000
attribute [local irreducible] thenA blockA scopeA retA AL AW AD ADL AH clrK CallA apure aload bload appK ptrK fnK ares szOk planOk okOps
theorem d37_Pe9 {g n : Prop} (k : n) (h : n → g := by first | exact AW.dr (id := 8) (by rfl) [0, 1, 2, 3, 4, 5, 6, 7, 8, 9, 10, 11, 12, 13, 14, 15, 16, 17, 18, 19, 20, 21, 22, 23] (by kernel_rfl) (by kernel_rfl) | exact AW.dr (id := 9) (by rfl) [0, 1, 2, 3, 4, 5, 6, 7, 8] (by kernel_rfl) (by kernel_rfl) | exact AW.dr (id := 11) (by rfl) [0, 1, 2, 3, 4, 5, 6, 7, 8, 9, 10] (by kernel_rfl) (by kernel_rfl)) : g := h k
theorem ptick_spec (q : PV) (vb : Value) (n : Int) (M : Mem) (hv : Sl M vb 1 (ints .u8 q.buf)) (hl : q.buf.length ≤ 1000000) (hq : -9223372036854775808 ≤ q.hold ∧ q.hold ≤ 9223372036854775807) : CallA Try.prog 37 [.agg ⟨pvL q vb⟩, .int .i64 n] M fun r M' => Fr M M' [] ∧ EvR M.length M' r (tickP q n) := by
 have g1 := isSl_cl hv.isSl
 have o1 := isSl_one hv.isSl
 simp only [Value.oneCell'] at o1
 have P2 := Fr.push2 M (.box (pvL q vb)) (.box (pvL (freshP CF.zero 0) (.slice none 0 0)))
 have A2 := (At.push M (.box (pvL q vb))).keep (Fr.push _ (.box (pvL (freshP CF.zero 0) (.slice none 0 0)))) (by simp)
 have B2 := At.push (M ++ [.box (pvL q vb)]) (.box (pvL (freshP CF.zero 0) (.slice none 0 0)))
 rw [List.length_append, List.length_singleton] at B2
 unfold pvL freshP CF.zero at P2 A2 B2
 dsimp only at P2 A2 B2
 have hs0 := hv.isSl
 unfold pvL
 (refine CallA.of_body Try.func37 rfl (by rfl) ?_; simp only [Try.ntmps37, List.length_cons, List.length_nil, List.replicate, List.cons_append, List.nil_append, Nat.reduceSub, Nat.reduceAdd])
 (repeat (first | refine st ?_ | refine σa ?_ | refine d37_Pe9 ?_ | ((first | refine σb ?_ | refine σc ?_); simp (disch := omega) only [push_cast, ↓reduceIte, reduceCtorEq, ν1, ν2, ν3, ν4, ν5, ζ1, ζ2, ζ3, ζ4, ζ5, mem2E, A2.ld, g1, o1, buildE, lsE])))
 generalize M ++ [Blk.box [.int .u32 q.conf.asn, .int .u32 q.conf.id, .int .i64 q.conf.hold, .int .u32 q.conf.peer, .int .i64 q.state, vb, .int .i64 q.hold, .int .i64 q.heard, .int .i64 q.said, .int .u32 q.id]] ++ [Blk.box [.int .u32 0, .int .u32 0, .int .i64 0, .int .u32 0, .int .i64 0, .slice none 0 0, .int .i64 0, .int .i64 0, .int .i64 0, .int .u32 0]] = M2 at *
 obtain ⟨t, ht⟩ : ∃ t, t = M.length := ⟨_, rfl⟩
 rw [← ht] at A2 B2 ⊢
 refine (pbegin_spec q vb M2 (hv.keep P2 (by simp)) hl).mono ?_
 rintro r M3 ⟨f3, p, rfl, w, vo, ve, ws, h3⟩
 have A3 := A2.keep f3 (by simp)
 have B3 := B2.keep f3 (by simp)
 have l2 := B2.lt
 have hpl := h3.lop
 (repeat (first | refine st ?_ | refine σa ?_ | refine d37_Pe9 ?_ | ((first | refine σb ?_ | refine σc ?_); simp (disch := omega) only [push_cast, ↓reduceIte, reduceCtorEq, ν1, ν2, ν3, ν4, ν5, ζ1, ζ2, ζ3, ζ4, ζ5, A3.ld, buildE, lsE])))
 refine (plive_spec q vb M3 hs0).mono ?_
 rintro r M4 ⟨f4, rfl⟩
 have A4 := A3.keep f4 (by simp)
 have B4 := B3.keep f4 (by simp)
 have h4 := h3.keep f4
 have F4 : FrL M2.length M2 M4 := FrL.of (f3.tr f4) (by simp)
 by_cases hr : liveP q
 rotate_left
 ·have e : tickP q n = stepOf q := by unfold tickP; rw [if_pos (.inl hr)]
  rw [e, decide_eq_false hr]
  (repeat (first | refine st ?_ | refine σa ?_ | refine d37_Pe9 ?_ | ((first | refine σb ?_ | refine σc ?_); simp (disch := omega) only [push_cast, ↓reduceIte, reduceCtorEq, ν1, ν2, ν3, ν4, ν5, ζ1, ζ2, ζ3, ζ4, ζ5, Bool.not_true, Bool.not_false, lsE])))
  refine (pend_spec _ p _ w vo ve ws M4 h4).mono ?_
  rintro r ME ⟨fE, rfl⟩
  have hE := h4.keep fE
  have BE := B4.keep fE (by simp)
  have q1 := isSl_cl hE.buf.isSl
  have q2 := isSl_one hE.buf.isSl
  have q3 := isSl_cl hE.out.sl.isSl
  have q4 := isSl_cl hE.evs.sl.isSl
  simp only [Value.oneCell'] at q2
  have Fs := Fr.set ME (t + 1) (.box (pvL (stepOf q).p w))
  have Bs := BE.set (.box (pvL (stepOf q).p w))
  have sb := hE.buf.keep Fs (fun b hb hx => by have := (hE.lob b hb).1; simp at hx; omega)
  have so := hE.out.sl.keep Fs (fun b hb hx => by have := (hE.loo b hb).1; simp at hx; omega)
  have se := hE.evs.sl.keep Fs (fun b hb hx => by have := (hE.loe b hb).1; simp at hx; omega)
  have sg : ∀ x ∈ ws, x.good (ME.set (t + 1) (.box (pvL (stepOf q).p w))) := fun x hx => (hE.good x hx).keep Fs (fun b hb hx' => by have := hE.lom x hx b hb; simp at hx'; omega)
  unfold pvL at Fs Bs sb so se sg ⊢
  (repeat (first | refine st ?_ | refine σa ?_ | refine d37_Pe9 ?_ | ((first | refine σb ?_ | refine σc ?_); simp (disch := omega) only [push_cast, ↓reduceIte, reduceCtorEq, ν1, ν2, ν3, ν4, ν5, ζ1, ζ2, ζ3, ζ4, ζ5, BE.get, BE.same, q1, q2, q3, q4, List.drop_nil, List.append_nil, Bool.not_true, Bool.not_false, boxE, buildE, lsE])))
  ((first | refine retA.ret (by rfl) ?_ | refine retA.normal (by rfl) ?_); simp (disch := omega) only [push_cast, ↓reduceIte, reduceCtorEq, Nat.reduceAdd, Nat.reduceMul, Nat.reduceLeDiff, Nat.reduceLT, Nat.reduceSub, Int.reduceNe, Int.reduceEq, Int.reduceLE, Int.reduceLT, Int.reduceToNat, Bs.ld, q1, q2, q3, q4, buildE])
  exact ⟨((P2.trans ((F4).trans (FrL.of fE (by simp)) |>.fr (Nat.le_refl _))).trans Fs).cut (fun c hc hlt => by simp at hc; omega), w, vo, ve, ws, rfl, sb, so, se, hE.ews, sg, fun b hb => by have := (hE.lob b hb).1; omega, fun b hb => by have := (hE.loo b hb).1; omega, fun b hb => by have := (hE.loe b hb).1; omega, fun x hx b hb => by have := hE.lom x hx b hb; omega⟩
 rw [decide_eq_true hr]
 by_cases c1 : n < 1
 ·have d1 : decide (n < 1) = true := decide_eq_true c1
  have e : tickP q n = stepOf q := by unfold tickP; rw [if_pos (.inr (.inl c1))]
  rw [e]
  (repeat (first | refine st ?_ | refine σa ?_ | refine d37_Pe9 ?_ | ((first | refine σb ?_ | refine σc ?_); simp (disch := omega) only [push_cast, ↓reduceIte, reduceCtorEq, ν1, ν2, ν3, ν4, ν5, ζ1, ζ2, ζ3, ζ4, ζ5, d1, Bool.not_true, Bool.not_false, lsE])))
  refine (pend_spec _ p _ w vo ve ws M4 h4).mono ?_
  rintro r ME ⟨fE, rfl⟩
  have hE := h4.keep fE
  have BE := B4.keep fE (by simp)
  have q1 := isSl_cl hE.buf.isSl
  have q2 := isSl_one hE.buf.isSl
  have q3 := isSl_cl hE.out.sl.isSl
  have q4 := isSl_cl hE.evs.sl.isSl
  simp only [Value.oneCell'] at q2
  have Fs := Fr.set ME (t + 1) (.box (pvL (stepOf q).p w))
  have Bs := BE.set (.box (pvL (stepOf q).p w))
  have sb := hE.buf.keep Fs (fun b hb hx => by have := (hE.lob b hb).1; simp at hx; omega)
  have so := hE.out.sl.keep Fs (fun b hb hx => by have := (hE.loo b hb).1; simp at hx; omega)
  have se := hE.evs.sl.keep Fs (fun b hb hx => by have := (hE.loe b hb).1; simp at hx; omega)
  have sg : ∀ x ∈ ws, x.good (ME.set (t + 1) (.box (pvL (stepOf q).p w))) := fun x hx => (hE.good x hx).keep Fs (fun b hb hx' => by have := hE.lom x hx b hb; simp at hx'; omega)
  unfold pvL at Fs Bs sb so se sg ⊢
  (repeat (first | refine st ?_ | refine σa ?_ | refine d37_Pe9 ?_ | ((first | refine σb ?_ | refine σc ?_); simp (disch := omega) only [push_cast, ↓reduceIte, reduceCtorEq, ν1, ν2, ν3, ν4, ν5, ζ1, ζ2, ζ3, ζ4, ζ5, BE.get, BE.same, q1, q2, q3, q4, List.drop_nil, List.append_nil, Bool.not_true, Bool.not_false, boxE, buildE, lsE])))
  ((first | refine retA.ret (by rfl) ?_ | refine retA.normal (by rfl) ?_); simp (disch := omega) only [push_cast, ↓reduceIte, reduceCtorEq, Nat.reduceAdd, Nat.reduceMul, Nat.reduceLeDiff, Nat.reduceLT, Nat.reduceSub, Int.reduceNe, Int.reduceEq, Int.reduceLE, Int.reduceLT, Int.reduceToNat, Bs.ld, q1, q2, q3, q4, buildE])
  exact ⟨((P2.trans ((F4).trans (FrL.of fE (by simp)) |>.fr (Nat.le_refl _))).trans Fs).cut (fun c hc hlt => by simp at hc; omega), w, vo, ve, ws, rfl, sb, so, se, hE.ews, sg, fun b hb => by have := (hE.lob b hb).1; omega, fun b hb => by have := (hE.loo b hb).1; omega, fun b hb => by have := (hE.loe b hb).1; omega, fun x hx b hb => by have := hE.lom x hx b hb; omega⟩
 have d1 : decide (n < 1) = false := decide_eq_false c1
 by_cases c2 : n > 65536
 ·have d2 : decide (n > 65536) = true := decide_eq_true c2
  have e : tickP q n = stepOf q := by unfold tickP; rw [if_pos (.inr (.inr c2))]
  rw [e]
  (repeat (first | refine st ?_ | refine σa ?_ | refine d37_Pe9 ?_ | ((first | refine σb ?_ | refine σc ?_); simp (disch := omega) only [push_cast, ↓reduceIte, reduceCtorEq, ν1, ν2, ν3, ν4, ν5, ζ1, ζ2, ζ3, ζ4, ζ5, d1, d2, Bool.not_true, Bool.not_false, lsE])))
  refine (pend_spec _ p _ w vo ve ws M4 h4).mono ?_
  rintro r ME ⟨fE, rfl⟩
  have hE := h4.keep fE
  have BE := B4.keep fE (by simp)
  have q1 := isSl_cl hE.buf.isSl
  have q2 := isSl_one hE.buf.isSl
  have q3 := isSl_cl hE.out.sl.isSl
  have q4 := isSl_cl hE.evs.sl.isSl
  simp only [Value.oneCell'] at q2
  have Fs := Fr.set ME (t + 1) (.box (pvL (stepOf q).p w))
  have Bs := BE.set (.box (pvL (stepOf q).p w))
  have sb := hE.buf.keep Fs (fun b hb hx => by have := (hE.lob b hb).1; simp at hx; omega)
  have so := hE.out.sl.keep Fs (fun b hb hx => by have := (hE.loo b hb).1; simp at hx; omega)
  have se := hE.evs.sl.keep Fs (fun b hb hx => by have := (hE.loe b hb).1; simp at hx; omega)
  have sg : ∀ x ∈ ws, x.good (ME.set (t + 1) (.box (pvL (stepOf q).p w))) := fun x hx => (hE.good x hx).keep Fs (fun b hb hx' => by have := hE.lom x hx b hb; simp at hx'; omega)
  unfold pvL at Fs Bs sb so se sg ⊢
  (repeat (first | refine st ?_ | refine σa ?_ | refine d37_Pe9 ?_ | ((first | refine σb ?_ | refine σc ?_); simp (disch := omega) only [push_cast, ↓reduceIte, reduceCtorEq, ν1, ν2, ν3, ν4, ν5, ζ1, ζ2, ζ3, ζ4, ζ5, BE.get, BE.same, q1, q2, q3, q4, List.drop_nil, List.append_nil, Bool.not_true, Bool.not_false, boxE, buildE, lsE])))
  ((first | refine retA.ret (by rfl) ?_ | refine retA.normal (by rfl) ?_); simp (disch := omega) only [push_cast, ↓reduceIte, reduceCtorEq, Nat.reduceAdd, Nat.reduceMul, Nat.reduceLeDiff, Nat.reduceLT, Nat.reduceSub, Int.reduceNe, Int.reduceEq, Int.reduceLE, Int.reduceLT, Int.reduceToNat, Bs.ld, q1, q2, q3, q4, buildE])
  exact ⟨((P2.trans ((F4).trans (FrL.of fE (by simp)) |>.fr (Nat.le_refl _))).trans Fs).cut (fun c hc hlt => by simp at hc; omega), w, vo, ve, ws, rfl, sb, so, se, hE.ews, sg, fun b hb => by have := (hE.lob b hb).1; omega, fun b hb => by have := (hE.loo b hb).1; omega, fun b hb => by have := (hE.loe b hb).1; omega, fun x hx b hb => by have := hE.lom x hx b hb; omega⟩
 have d2 : decide (n > 65536) = false := decide_eq_false c2
 have hn : ¬ (¬ liveP q ∨ n < 1 ∨ n > 65536) := by rintro (h | h | h); exact h hr; exact c1 h; exact c2 h
 obtain ⟨H, hH⟩ : ∃ H, H = wrapI (q.heard + n) := ⟨_, rfl⟩
 have wH : IntKind.i64.wrap (q.heard + n) = H := hH.symm
 have b4 := h4.box
 unfold acL at b4
 dsimp only [stepOf] at b4
 have k1 := isSl_cl h4.out.sl.isSl
 have k2 := isSl_one h4.out.sl.isSl
 have k3 := isSl_cl h4.evs.sl.isSl
 have k4 := isSl_one h4.evs.sl.isSl
 have k5 := isSl_cl h4.buf.isSl
 have k6 := isSl_one h4.buf.isSl
 simp only [Value.oneCell'] at k2 k4 k6
 by_cases s2 : q.state = 2
 ·have e2 : decide (q.state = 2) = true := decide_eq_true s2
  obtain ⟨h5, F5⟩ := h4.setP { q with heard := H } h4.buf h4.lob
  have b5 := h5.box
  have l5 : (M4.set p (.box (acL { q with heard := H } w vo ve))).length = M4.length := List.length_set
  have FF := F4.trans F5
  have B5 := B4.keepL F5 (by omega)
  unfold acL at b5 h5 F5 l5 FF B5
  dsimp only [stepOf] at b5 h5 F5 l5 FF B5
  by_cases c3 : H ≥ 240
  ·have d3 : decide (H ≥ 240) = true := decide_eq_true c3
   (repeat (first | refine st ?_ | refine σa ?_ | refine d37_Pe9 ?_ | ((first | refine σb ?_ | refine σc ?_); simp (disch := omega) only [push_cast, ↓reduceIte, reduceCtorEq, ν1, ν2, ν3, ν4, ν5, ζ1, ζ2, ζ3, ζ4, ζ5, d1, d2, A4.ld, e2, wH, d3, b4.ld, b4.get, b4.same, b5.ld, k1, k2, k3, k4, k5, k6, List.drop_nil, List.append_nil, Bool.not_true, Bool.not_false, boxE, buildE, lsE])))
   have e : tickP q n = downP (stepOf { q with heard := H }) 4 0 := by unfold tickP; rw [if_neg hn, if_pos s2, ← hH, if_pos c3]
   rw [e]
   refine (pdown_spec M2.length p (stepOf { q with heard := H }) w vo ve ws 4 0 _ h5 (by show 0 ≤ 10000000; omega) (by show 0 ≤ 1000000; omega) (by rw [l5]; exact F4.1)).mono ?_
   rintro r M6 ⟨rfl, F6, w6, vo6, ve6, ws6, h6⟩
   have FG := FF.trans F6
   have B6 := B5.keepL F6 (by omega)
   (repeat (first | refine st ?_ | refine σa ?_ | refine d37_Pe9 ?_ | ((first | refine σb ?_ | refine σc ?_); simp (disch := omega) only [push_cast, ↓reduceIte, reduceCtorEq, ν1, ν2, ν3, ν4, ν5, ζ1, ζ2, ζ3, ζ4, ζ5, lsE])))
   refine (pend_spec _ p _ w6 vo6 ve6 ws6 M6 h6).mono ?_
   rintro r ME ⟨fE, rfl⟩
   have hE := h6.keep fE
   have BE := B6.keep fE (by simp)
   have q1 := isSl_cl hE.buf.isSl
   have q2 := isSl_one hE.buf.isSl
   have q3 := isSl_cl hE.out.sl.isSl
   have q4 := isSl_cl hE.evs.sl.isSl
   simp only [Value.oneCell'] at q2
   have Fs := Fr.set ME (t + 1) (.box (pvL (downP (stepOf { q with heard := H }) 4 0).p w6))
   have Bs := BE.set (.box (pvL (downP (stepOf { q with heard := H }) 4 0).p w6))
   have sb := hE.buf.keep Fs (fun b hb hx => by have := (hE.lob b hb).1; simp at hx; omega)
   have so := hE.out.sl.keep Fs (fun b hb hx => by have := (hE.loo b hb).1; simp at hx; omega)
   have se := hE.evs.sl.keep Fs (fun b hb hx => by have := (hE.loe b hb).1; simp at hx; omega)
   have sg : ∀ x ∈ ws6, x.good (ME.set (t + 1) (.box (pvL (downP (stepOf { q with heard := H }) 4 0).p w6))) := fun x hx => (hE.good x hx).keep Fs (fun b hb hx' => by have := hE.lom x hx b hb; simp at hx'; omega)
   unfold pvL at Fs Bs sb so se sg ⊢
   (repeat (first | refine st ?_ | refine σa ?_ | refine d37_Pe9 ?_ | ((first | refine σb ?_ | refine σc ?_); simp (disch := omega) only [push_cast, ↓reduceIte, reduceCtorEq, ν1, ν2, ν3, ν4, ν5, ζ1, ζ2, ζ3, ζ4, ζ5, BE.get, BE.same, q1, q2, q3, q4, List.drop_nil, List.append_nil, Bool.not_true, Bool.not_false, boxE, buildE, lsE])))
   ((first | refine retA.ret (by rfl) ?_ | refine retA.normal (by rfl) ?_); simp (disch := omega) only [push_cast, ↓reduceIte, reduceCtorEq, Nat.reduceAdd, Nat.reduceMul, Nat.reduceLeDiff, Nat.reduceLT, Nat.reduceSub, Int.reduceNe, Int.reduceEq, Int.reduceLE, Int.reduceLT, Int.reduceToNat, Bs.ld, q1, q2, q3, q4, buildE])
   exact ⟨((P2.trans ((FG).trans (FrL.of fE (by simp)) |>.fr (Nat.le_refl _))).trans Fs).cut (fun c hc hlt => by simp at hc; omega), w6, vo6, ve6, ws6, rfl, sb, so, se, hE.ews, sg, fun b hb => by have := (hE.lob b hb).1; omega, fun b hb => by have := (hE.loo b hb).1; omega, fun b hb => by have := (hE.loe b hb).1; omega, fun x hx b hb => by have := hE.lom x hx b hb; omega⟩
  ·have d3 : decide (H ≥ 240) = false := decide_eq_false c3
   (repeat (first | refine st ?_ | refine σa ?_ | refine d37_Pe9 ?_ | ((first | refine σb ?_ | refine σc ?_); simp (disch := omega) only [push_cast, ↓reduceIte, reduceCtorEq, ν1, ν2, ν3, ν4, ν5, ζ1, ζ2, ζ3, ζ4, ζ5, d1, d2, A4.ld, e2, wH, d3, b4.ld, b4.get, b4.same, b5.ld, k1, k2, k3, k4, k5, k6, List.drop_nil, List.append_nil, Bool.not_true, Bool.not_false, boxE, buildE, lsE])))
   have e : tickP q n = stepOf { q with heard := H } := by unfold tickP; rw [if_neg hn, if_pos s2, ← hH, if_neg c3]
   obtain ⟨s5, hs5⟩ : ∃ s5 : ST, s5 = ⟨{ q with heard := H }, [], []⟩ := ⟨_, rfl⟩
   have e' : tickP q n = s5 := by rw [e, hs5]; rfl
   rw [e']
   rw [← hs5] at h5
   (repeat (first | refine st ?_ | refine σa ?_ | refine d37_Pe9 ?_ | ((first | refine σb ?_ | refine σc ?_); simp (disch := omega) only [push_cast, ↓reduceIte, reduceCtorEq, ν1, ν2, ν3, ν4, ν5, ζ1, ζ2, ζ3, ζ4, ζ5, lsE])))
   refine (pend_spec _ p _ w vo ve ws _ h5).mono ?_
   rintro r ME ⟨fE, rfl⟩
   have hE := h5.keep fE
   have BE := B5.keep fE (by simp)
   have q1 := isSl_cl hE.buf.isSl
   have q2 := isSl_one hE.buf.isSl
   have q3 := isSl_cl hE.out.sl.isSl
   have q4 := isSl_cl hE.evs.sl.isSl
   simp only [Value.oneCell'] at q2
   have Fs := Fr.set ME (t + 1) (.box (pvL (s5).p w))
   have Bs := BE.set (.box (pvL (s5).p w))
   have sb := hE.buf.keep Fs (fun b hb hx => by have := (hE.lob b hb).1; simp at hx; omega)
   have so := hE.out.sl.keep Fs (fun b hb hx => by have := (hE.loo b hb).1; simp at hx; omega)
   have se := hE.evs.sl.keep Fs (fun b hb hx => by have := (hE.loe b hb).1; simp at hx; omega)
   have sg : ∀ x ∈ ws, x.good (ME.set (t + 1) (.box (pvL (s5).p w))) := fun x hx => (hE.good x hx).keep Fs (fun b hb hx' => by have := hE.lom x hx b hb; simp at hx'; omega)
   unfold pvL at Fs Bs sb so se sg ⊢
   (repeat (first | refine st ?_ | refine σa ?_ | refine d37_Pe9 ?_ | ((first | refine σb ?_ | refine σc ?_); simp (disch := omega) only [push_cast, ↓reduceIte, reduceCtorEq, ν1, ν2, ν3, ν4, ν5, ζ1, ζ2, ζ3, ζ4, ζ5, BE.get, BE.same, q1, q2, q3, q4, List.drop_nil, List.append_nil, Bool.not_true, Bool.not_false, boxE, buildE, lsE])))
   ((first | refine retA.ret (by rfl) ?_ | refine retA.normal (by rfl) ?_); simp (disch := omega) only [push_cast, ↓reduceIte, reduceCtorEq, Nat.reduceAdd, Nat.reduceMul, Nat.reduceLeDiff, Nat.reduceLT, Nat.reduceSub, Int.reduceNe, Int.reduceEq, Int.reduceLE, Int.reduceLT, Int.reduceToNat, Bs.ld, q1, q2, q3, q4, buildE])
   exact ⟨((P2.trans ((FF).trans (FrL.of fE (by simp)) |>.fr (Nat.le_refl _))).trans Fs).cut (fun c hc hlt => by simp at hc; omega), w, vo, ve, ws, rfl, sb, so, se, hE.ews, sg, fun b hb => by have := (hE.lob b hb).1; omega, fun b hb => by have := (hE.loo b hb).1; omega, fun b hb => by have := (hE.loe b hb).1; omega, fun x hx b hb => by have := hE.lom x hx b hb; omega⟩
 have e2 : decide (q.state = 2) = false := decide_eq_false s2
 by_cases h0 : q.hold = 0
 ·have d0 : decide (q.hold = 0) = true := decide_eq_true h0
  have e : tickP q n = stepOf q := by unfold tickP; rw [if_neg hn, if_neg s2, if_pos h0]
  rw [e]
  (repeat (first | refine st ?_ | refine σa ?_ | refine d37_Pe9 ?_ | ((first | refine σb ?_ | refine σc ?_); simp (disch := omega) only [push_cast, ↓reduceIte, reduceCtorEq, ν1, ν2, ν3, ν4, ν5, ζ1, ζ2, ζ3, ζ4, ζ5, d1, d2, A4.ld, e2, d0, Bool.not_true, Bool.not_false, buildE, lsE])))
  refine (pend_spec _ p _ w vo ve ws M4 h4).mono ?_
  rintro r ME ⟨fE, rfl⟩
  have hE := h4.keep fE
  have BE := B4.keep fE (by simp)
  have q1 := isSl_cl hE.buf.isSl
  have q2 := isSl_one hE.buf.isSl
  have q3 := isSl_cl hE.out.sl.isSl
  have q4 := isSl_cl hE.evs.sl.isSl
  simp only [Value.oneCell'] at q2
  have Fs := Fr.set ME (t + 1) (.box (pvL (stepOf q).p w))
  have Bs := BE.set (.box (pvL (stepOf q).p w))
  have sb := hE.buf.keep Fs (fun b hb hx => by have := (hE.lob b hb).1; simp at hx; omega)
  have so := hE.out.sl.keep Fs (fun b hb hx => by have := (hE.loo b hb).1; simp at hx; omega)
  have se := hE.evs.sl.keep Fs (fun b hb hx => by have := (hE.loe b hb).1; simp at hx; omega)
  have sg : ∀ x ∈ ws, x.good (ME.set (t + 1) (.box (pvL (stepOf q).p w))) := fun x hx => (hE.good x hx).keep Fs (fun b hb hx' => by have := hE.lom x hx b hb; simp at hx'; omega)
  unfold pvL at Fs Bs sb so se sg ⊢
  (repeat (first | refine st ?_ | refine σa ?_ | refine d37_Pe9 ?_ | ((first | refine σb ?_ | refine σc ?_); simp (disch := omega) only [push_cast, ↓reduceIte, reduceCtorEq, ν1, ν2, ν3, ν4, ν5, ζ1, ζ2, ζ3, ζ4, ζ5, BE.get, BE.same, q1, q2, q3, q4, List.drop_nil, List.append_nil, Bool.not_true, Bool.not_false, boxE, buildE, lsE])))
  ((first | refine retA.ret (by rfl) ?_ | refine retA.normal (by rfl) ?_); simp (disch := omega) only [push_cast, ↓reduceIte, reduceCtorEq, Nat.reduceAdd, Nat.reduceMul, Nat.reduceLeDiff, Nat.reduceLT, Nat.reduceSub, Int.reduceNe, Int.reduceEq, Int.reduceLE, Int.reduceLT, Int.reduceToNat, Bs.ld, q1, q2, q3, q4, buildE])
  exact ⟨((P2.trans ((F4).trans (FrL.of fE (by simp)) |>.fr (Nat.le_refl _))).trans Fs).cut (fun c hc hlt => by simp at hc; omega), w, vo, ve, ws, rfl, sb, so, se, hE.ews, sg, fun b hb => by have := (hE.lob b hb).1; omega, fun b hb => by have := (hE.loo b hb).1; omega, fun b hb => by have := (hE.loe b hb).1; omega, fun x hx b hb => by have := hE.lom x hx b hb; omega⟩
 have d0 : decide (q.hold = 0) = false := decide_eq_false h0
 obtain ⟨T, hT⟩ : ∃ T, T = wrapI (q.said + n) := ⟨_, rfl⟩
 have wT : IntKind.i64.wrap (q.said + n) = T := hT.symm
 obtain ⟨h5, F5⟩ := h4.setP { q with heard := H, said := T } h4.buf h4.lob
 have b5 := h5.box
 have l5 : (M4.set p (.box (acL { q with heard := H, said := T } w vo ve))).length = M4.length := List.length_set
 have FF := F4.trans F5
 have B5 := B4.keepL F5 (by omega)
 unfold acL at b5 h5 F5 l5 FF B5
 dsimp only [stepOf] at b5 h5 F5 l5 FF B5
 have hpt : p ≠ t := by omega
 have hp0 : p < M4.length := h4.lt
 by_cases c3 : H ≥ q.hold
 ·have d3 : decide (H ≥ q.hold) = true := decide_eq_true c3
  (repeat (first | refine st ?_ | refine σa ?_ | refine d37_Pe9 ?_ | ((first | refine σb ?_ | refine σc ?_); simp (disch := omega) only [push_cast, ↓reduceIte, reduceCtorEq, ν1, ν2, ν3, ν4, ν5, ζ1, ζ2, ζ3, ζ4, ζ5, d1, d2, A4.ld, e2, d0, wH, wT, d3, b4.ld, b4.get, b4.same, b5.ld, ld_ne, k1, k2, k3, k4, k5, k6, List.drop_nil, List.append_nil, Bool.not_true, Bool.not_false, boxE, buildE, lsE])))
  have e : tickP q n = downP (stepOf { q with heard := H, said := T }) 4 0 := by unfold tickP; rw [if_neg hn, if_neg s2, if_neg h0, ← hH, ← hT, if_pos c3]
  rw [e]
  refine (pdown_spec M2.length p (stepOf { q with heard := H, said := T }) w vo ve ws 4 0 _ h5 (by show 0 ≤ 10000000; omega) (by show 0 ≤ 1000000; omega) (by rw [l5]; exact F4.1)).mono ?_
  rintro r M6 ⟨rfl, F6, w6, vo6, ve6, ws6, h6⟩
  have FG := FF.trans F6
  have B6 := B5.keepL F6 (by omega)
  (repeat (first | refine st ?_ | refine σa ?_ | refine d37_Pe9 ?_ | ((first | refine σb ?_ | refine σc ?_); simp (disch := omega) only [push_cast, ↓reduceIte, reduceCtorEq, ν1, ν2, ν3, ν4, ν5, ζ1, ζ2, ζ3, ζ4, ζ5, lsE])))
  refine (pend_spec _ p _ w6 vo6 ve6 ws6 M6 h6).mono ?_
  rintro r ME ⟨fE, rfl⟩
  have hE := h6.keep fE
  have BE := B6.keep fE (by simp)
  have q1 := isSl_cl hE.buf.isSl
  have q2 := isSl_one hE.buf.isSl
  have q3 := isSl_cl hE.out.sl.isSl
  have q4 := isSl_cl hE.evs.sl.isSl
  simp only [Value.oneCell'] at q2
  have Fs := Fr.set ME (t + 1) (.box (pvL (downP (stepOf { q with heard := H, said := T }) 4 0).p w6))
  have Bs := BE.set (.box (pvL (downP (stepOf { q with heard := H, said := T }) 4 0).p w6))
  have sb := hE.buf.keep Fs (fun b hb hx => by have := (hE.lob b hb).1; simp at hx; omega)
  have so := hE.out.sl.keep Fs (fun b hb hx => by have := (hE.loo b hb).1; simp at hx; omega)
  have se := hE.evs.sl.keep Fs (fun b hb hx => by have := (hE.loe b hb).1; simp at hx; omega)
  have sg : ∀ x ∈ ws6, x.good (ME.set (t + 1) (.box (pvL (downP (stepOf { q with heard := H, said := T }) 4 0).p w6))) := fun x hx => (hE.good x hx).keep Fs (fun b hb hx' => by have := hE.lom x hx b hb; simp at hx'; omega)
  unfold pvL at Fs Bs sb so se sg ⊢
  (repeat (first | refine st ?_ | refine σa ?_ | refine d37_Pe9 ?_ | ((first | refine σb ?_ | refine σc ?_); simp (disch := omega) only [push_cast, ↓reduceIte, reduceCtorEq, ν1, ν2, ν3, ν4, ν5, ζ1, ζ2, ζ3, ζ4, ζ5, BE.get, BE.same, q1, q2, q3, q4, List.drop_nil, List.append_nil, Bool.not_true, Bool.not_false, boxE, buildE, lsE])))
  ((first | refine retA.ret (by rfl) ?_ | refine retA.normal (by rfl) ?_); simp (disch := omega) only [push_cast, ↓reduceIte, reduceCtorEq, Nat.reduceAdd, Nat.reduceMul, Nat.reduceLeDiff, Nat.reduceLT, Nat.reduceSub, Int.reduceNe, Int.reduceEq, Int.reduceLE, Int.reduceLT, Int.reduceToNat, Bs.ld, q1, q2, q3, q4, buildE])
  exact ⟨((P2.trans ((FG).trans (FrL.of fE (by simp)) |>.fr (Nat.le_refl _))).trans Fs).cut (fun c hc hlt => by simp at hc; omega), w6, vo6, ve6, ws6, rfl, sb, so, se, hE.ews, sg, fun b hb => by have := (hE.lob b hb).1; omega, fun b hb => by have := (hE.loo b hb).1; omega, fun b hb => by have := (hE.loe b hb).1; omega, fun x hx b hb => by have := hE.lom x hx b hb; omega⟩
 have d3 : decide (H ≥ q.hold) = false := decide_eq_false c3
 have A5 := A4.keepL F5 (by omega)
 have wq : IntKind.i64.wrap (q.hold.tdiv 3) = q.hold.tdiv 3 := by
  have h1 : 3 * q.hold.tdiv 3 + q.hold.tmod 3 = q.hold := Int.mul_tdiv_add_tmod q.hold 3
  have h2 : q.hold.tmod 3 < 3 := Int.tmod_lt_of_pos q.hold (by omega)
  have h3 : -3 < q.hold.tmod 3 := Int.lt_tmod_of_pos q.hold (by omega)
  exact w_i64 (by omega) (by omega)
 have hmx : (if q.hold.tdiv 3 > 1 then q.hold.tdiv 3 else 1) = max 1 (q.hold.tdiv 3) := by split <;> omega
 by_cases c4 : T ≥ max 1 (q.hold.tdiv 3)
 rotate_left
 ·have d4 : decide (T ≥ max 1 (q.hold.tdiv 3)) = false := decide_eq_false c4
  (repeat (first | refine st ?_ | refine σa ?_ | refine d37_Pe9 ?_ | ((first | refine σb ?_ | refine σc ?_); simp (disch := omega) only [push_cast, ↓reduceIte, reduceCtorEq, ν1, ν2, ν3, ν4, ν5, ζ1, ζ2, ζ3, ζ4, ζ5, d1, d2, A4.ld, e2, d0, wH, wT, wq, hmx, d3, d4, b4.ld, b4.get, b4.same, b5.ld, ld_ne, k1, k2, k3, k4, k5, k6, List.drop_nil, List.append_nil, Bool.not_true, Bool.not_false, boxE, buildE, lsE])))
  have e : tickP q n = stepOf { q with heard := H, said := T } := by unfold tickP; rw [if_neg hn, if_neg s2, if_neg h0, ← hH, ← hT, if_neg c3, if_neg c4]
  obtain ⟨s5, hs5⟩ : ∃ s5 : ST, s5 = ⟨{ q with heard := H, said := T }, [], []⟩ := ⟨_, rfl⟩
  have e' : tickP q n = s5 := by rw [e, hs5]; rfl
  rw [e']
  rw [← hs5] at h5
  (repeat (first | refine st ?_ | refine σa ?_ | refine d37_Pe9 ?_ | ((first | refine σb ?_ | refine σc ?_); simp (disch := omega) only [push_cast, ↓reduceIte, reduceCtorEq, ν1, ν2, ν3, ν4, ν5, ζ1, ζ2, ζ3, ζ4, ζ5, lsE])))
  refine (pend_spec _ p _ w vo ve ws _ h5).mono ?_
  rintro r ME ⟨fE, rfl⟩
  have hE := h5.keep fE
  have BE := B5.keep fE (by simp)
  have q1 := isSl_cl hE.buf.isSl
  have q2 := isSl_one hE.buf.isSl
  have q3 := isSl_cl hE.out.sl.isSl
  have q4 := isSl_cl hE.evs.sl.isSl
  simp only [Value.oneCell'] at q2
  have Fs := Fr.set ME (t + 1) (.box (pvL (s5).p w))
  have Bs := BE.set (.box (pvL (s5).p w))
  have sb := hE.buf.keep Fs (fun b hb hx => by have := (hE.lob b hb).1; simp at hx; omega)
  have so := hE.out.sl.keep Fs (fun b hb hx => by have := (hE.loo b hb).1; simp at hx; omega)
  have se := hE.evs.sl.keep Fs (fun b hb hx => by have := (hE.loe b hb).1; simp at hx; omega)
  have sg : ∀ x ∈ ws, x.good (ME.set (t + 1) (.box (pvL (s5).p w))) := fun x hx => (hE.good x hx).keep Fs (fun b hb hx' => by have := hE.lom x hx b hb; simp at hx'; omega)
  unfold pvL at Fs Bs sb so se sg ⊢
  (repeat (first | refine st ?_ | refine σa ?_ | refine d37_Pe9 ?_ | ((first | refine σb ?_ | refine σc ?_); simp (disch := omega) only [push_cast, ↓reduceIte, reduceCtorEq, ν1, ν2, ν3, ν4, ν5, ζ1, ζ2, ζ3, ζ4, ζ5, BE.get, BE.same, q1, q2, q3, q4, List.drop_nil, List.append_nil, Bool.not_true, Bool.not_false, boxE, buildE, lsE])))
  ((first | refine retA.ret (by rfl) ?_ | refine retA.normal (by rfl) ?_); simp (disch := omega) only [push_cast, ↓reduceIte, reduceCtorEq, Nat.reduceAdd, Nat.reduceMul, Nat.reduceLeDiff, Nat.reduceLT, Nat.reduceSub, Int.reduceNe, Int.reduceEq, Int.reduceLE, Int.reduceLT, Int.reduceToNat, Bs.ld, q1, q2, q3, q4, buildE])
  exact ⟨((P2.trans ((FF).trans (FrL.of fE (by simp)) |>.fr (Nat.le_refl _))).trans Fs).cut (fun c hc hlt => by simp at hc; omega), w, vo, ve, ws, rfl, sb, so, se, hE.ews, sg, fun b hb => by have := (hE.lob b hb).1; omega, fun b hb => by have := (hE.loo b hb).1; omega, fun b hb => by have := (hE.loe b hb).1; omega, fun x hx b hb => by have := hE.lom x hx b hb; omega⟩
 have d4 : decide (T ≥ max 1 (q.hold.tdiv 3)) = true := decide_eq_true c4
 (repeat (first | refine st ?_ | refine σa ?_ | refine d37_Pe9 ?_ | ((first | refine σb ?_ | refine σc ?_); simp (disch := omega) only [push_cast, ↓reduceIte, reduceCtorEq, ν1, ν2, ν3, ν4, ν5, ζ1, ζ2, ζ3, ζ4, ζ5, d1, d2, A4.ld, e2, d0, wH, wT, wq, hmx, d3, d4, b4.ld, b4.get, b4.same, b5.ld, ld_ne, k1, k2, k3, k4, k5, k6, List.drop_nil, List.append_nil, Bool.not_true, Bool.not_false, boxE, buildE, lsE])))
 have e : tickP q n = sayP (stepOf { q with heard := H, said := 0 }) aliveM := by unfold tickP; rw [if_neg hn, if_neg s2, if_neg h0, ← hH, ← hT, if_neg c3, if_pos c4]
 refine (psay_spec M2.length p _ w vo ve ws aliveM (.slice none 0 0) (.slice none 0 0) (.slice none 0 0) (.slice none 0 0) (.slice none 0 0) _ h5 (MVin.nils _ ⟨rfl, rfl, rfl, rfl, rfl⟩) good_aliveM size_aliveM (by show 0 ≤ 10000000; omega) (by rw [l5]; exact F4.1)).mono ?_
 rintro r M6 ⟨rfl, F6, w6, vo6, ve6, ws6, h6⟩
 have FG := FF.trans F6
 have B6 := B5.keepL F6 (by omega)
 have b6 := h6.box
 unfold acL at b6
 dsimp only [sayP] at b6
 obtain ⟨h7, F7⟩ := h6.setP { q with heard := H, said := 0 } h6.buf h6.lob
 have FH := FG.trans F7
 have B7 := B6.keepL F7 (by omega)
 unfold acL at h7 F7 FH B7
 dsimp only [sayP] at h7 F7 FH B7
 have m1 := isSl_cl h6.out.sl.isSl
 have m2 := isSl_one h6.out.sl.isSl
 have m3 := isSl_cl h6.evs.sl.isSl
 have m4 := isSl_one h6.evs.sl.isSl
 have m5 := isSl_cl h6.buf.isSl
 have m6 := isSl_one h6.buf.isSl
 simp only [Value.oneCell'] at m2 m4 m6
 (repeat (first | refine st ?_ | refine σa ?_ | refine d37_Pe9 ?_ | ((first | refine σb ?_ | refine σc ?_); simp (disch := omega) only [push_cast, ↓reduceIte, reduceCtorEq, ν1, ν2, ν3, ν4, ν5, ζ1, ζ2, ζ3, ζ4, ζ5, b6.ld, b6.get, b6.same, ld_ne, m1, m2, m3, m4, m5, m6, List.drop_nil, List.append_nil, Bool.not_true, Bool.not_false, boxE, buildE, lsE])))
 obtain ⟨s7, hs7⟩ : ∃ s7 : ST, s7 = ⟨{ q with heard := H, said := 0 }, [] ++ (putM aliveM).1, []⟩ := ⟨_, rfl⟩
 have e' : tickP q n = s7 := by rw [e, hs7]; rfl
 rw [e']
 rw [← hs7] at h7
 (repeat (first | refine st ?_ | refine σa ?_ | refine d37_Pe9 ?_ | ((first | refine σb ?_ | refine σc ?_); simp (disch := omega) only [push_cast, ↓reduceIte, reduceCtorEq, ν1, ν2, ν3, ν4, ν5, ζ1, ζ2, ζ3, ζ4, ζ5, lsE])))
 refine (pend_spec _ p _ w6 vo6 ve6 ws6 _ h7).mono ?_
 rintro r ME ⟨fE, rfl⟩
 have hE := h7.keep fE
 have BE := B7.keep fE (by simp)
 have q1 := isSl_cl hE.buf.isSl
 have q2 := isSl_one hE.buf.isSl
 have q3 := isSl_cl hE.out.sl.isSl
 have q4 := isSl_cl hE.evs.sl.isSl
 simp only [Value.oneCell'] at q2
 have Fs := Fr.set ME (t + 1) (.box (pvL (s7).p w6))
 have Bs := BE.set (.box (pvL (s7).p w6))
 have sb := hE.buf.keep Fs (fun b hb hx => by have := (hE.lob b hb).1; simp at hx; omega)
 have so := hE.out.sl.keep Fs (fun b hb hx => by have := (hE.loo b hb).1; simp at hx; omega)
 have se := hE.evs.sl.keep Fs (fun b hb hx => by have := (hE.loe b hb).1; simp at hx; omega)
 have sg : ∀ x ∈ ws6, x.good (ME.set (t + 1) (.box (pvL (s7).p w6))) := fun x hx => (hE.good x hx).keep Fs (fun b hb hx' => by have := hE.lom x hx b hb; simp at hx'; omega)
 unfold pvL at Fs Bs sb so se sg ⊢
 (repeat (first | refine st ?_ | refine σa ?_ | refine d37_Pe9 ?_ | ((first | refine σb ?_ | refine σc ?_); simp (disch := omega) only [push_cast, ↓reduceIte, reduceCtorEq, ν1, ν2, ν3, ν4, ν5, ζ1, ζ2, ζ3, ζ4, ζ5, BE.get, BE.same, q1, q2, q3, q4, List.drop_nil, List.append_nil, Bool.not_true, Bool.not_false, boxE, buildE, lsE])))
 ((first | refine retA.ret (by rfl) ?_ | refine retA.normal (by rfl) ?_); simp (disch := omega) only [push_cast, ↓reduceIte, reduceCtorEq, Nat.reduceAdd, Nat.reduceMul, Nat.reduceLeDiff, Nat.reduceLT, Nat.reduceSub, Int.reduceNe, Int.reduceEq, Int.reduceLE, Int.reduceLT, Int.reduceToNat, Bs.ld, q1, q2, q3, q4, buildE])
 exact ⟨((P2.trans ((FH).trans (FrL.of fE (by simp)) |>.fr (Nat.le_refl _))).trans Fs).cut (fun c hc hlt => by simp at hc; omega), w6, vo6, ve6, ws6, rfl, sb, so, se, hE.ews, sg, fun b hb => by have := (hE.lob b hb).1; omega, fun b hb => by have := (hE.loo b hb).1; omega, fun b hb => by have := (hE.loe b hb).1; omega, fun x hx b hb => by have := hE.lom x hx b hb; omega⟩
end Go.Proofs.Ytbdejnnbpdgjlaa.Ax
namespace Go.Proofs.Ytbdejnnbpdgjlaa.Ax
open Go Go.RowKit
set_option linter.unusedVariables false
set_option linter.unusedSimpArgs false
set_option maxRecDepth 100000
set_option maxHeartbeats 20000000
theorem take_buf (s : ST) (m : MV) : (takeS s m).p.buf = s.p.buf ∨ (takeS s m).p.buf = [] := by
 unfold takeS
 split
 ·exact .inr rfl
 split
 ·split
  ·unfold openS
   split
   ·exact .inr rfl
   split
   ·exact .inr rfl
   ·exact .inl rfl
  ·exact .inr rfl
 split
 ·split
  ·exact .inl rfl
  ·exact .inr rfl
 split
 ·split
  ·exact .inr rfl
  ·exact .inl rfl
 ·exact .inl rfl
theorem feed_idle (f : Nat) (s : ST) (h : s.p.state = 1) : feedS f s = s := by
 cases f with
 | zero => rfl
 | succ f => unfold feedS; rw [if_pos h]
def ST.pre (s : ST) (o : List Int) (e : List EV) : ST := { s with out := o ++ s.out, evs := e ++ s.evs }
theorem take_conf (s : ST) (m : MV) : (takeS s m).p.conf = s.p.conf := by
 unfold takeS
 split
 ·rfl
 split
 ·split
  ·unfold openS
   split
   ·rfl
   split
   ·rfl
   ·rfl
  ·rfl
 split
 ·split
  ·rfl
  ·rfl
 split
 ·split
  ·rfl
  ·rfl
 ·rfl
theorem take_le4 (s : ST) (m : MV) (h : s.p.state ≤ 4) : (takeS s m).p.state ≤ 4 := by
 unfold takeS
 split
 ·show (1 : Int) ≤ 4; omega
 split
 ·split
  ·unfold openS
   split
   ·show (1 : Int) ≤ 4; omega
   split
   ·show (1 : Int) ≤ 4; omega
   ·show (3 : Int) ≤ 4; omega
  ·show (1 : Int) ≤ 4; omega
 split
 ·split
  ·show (4 : Int) ≤ 4; omega
  ·show (1 : Int) ≤ 4; omega
 split
 ·split
  ·show (1 : Int) ≤ 4; omega
  ·exact h
 ·exact h
theorem feed_conf : ∀ (f : Nat) (s : ST), (feedS f s).p.conf = s.p.conf ∧ (s.p.state ≤ 4 → (feedS f s).p.state ≤ 4)
 | 0, s => ⟨rfl, id⟩
 | f + 1, s => by
  rw [feedS]
  split
  ·exact ⟨rfl, id⟩
  split
  ·exact ⟨rfl, fun _ => by show (1 : Int) ≤ 4; omega⟩
  split
  ·exact ⟨rfl, id⟩
  ·have h := feed_conf f (takeS { s with p := { s.p with buf := s.p.buf.drop (readM s.p.buf).2.1.toNat } } (readM s.p.buf).1)
   exact ⟨h.1.trans (take_conf _ _), fun hs => h.2 (take_le4 _ _ hs)⟩
theorem good_open {c : CF} (h1 : u32 c.asn) (h2 : u32 c.id) : goodM (openM c) := ⟨h1, h2, by simp [openM, MV.zero], by simp [openM, MV.zero], by simp [openM, MV.zero, goodAV, AV.zero, u32], by simp [openM, MV.zero]⟩
theorem good_alive : goodM aliveM := by simp [goodM, aliveM, MV.zero, goodAV, AV.zero, u32]
theorem size_open (c : CF) : sizeM (openM c) := by simp [sizeM, openM, MV.zero, AV.zero]
theorem size_alive : sizeM aliveM := by simp [sizeM, aliveM, MV.zero, AV.zero]
theorem good_notice (a b : Int) : goodM (noticeM a b) := by simp [goodM, noticeM, MV.zero, goodAV, AV.zero, u32]
theorem put_open {c : CF} (h : rightC c) : (putM (openM c)).2 = 0 := by
 have hr : rightM (openM c) := by
  unfold rightM
  rw [if_pos (show (openM c).kind = 1 from rfl)]
  exact ⟨h.1, h.2.1, h.2.2.2⟩
 unfold putM
 rw [if_neg (by simp [openM]), if_neg (by simp [hr]), if_neg]
 rw [bodyB_open (show (openM c).kind = 1 from rfl)]
 simp
theorem put_alive : (putM aliveM).2 = 0 := by
 have hr : rightM aliveM := by unfold rightM; simp [aliveM]
 unfold putM
 rw [if_neg (by simp [aliveM]), if_neg (by simp [hr]), if_neg (by simp [aliveM, bodyB])]
theorem own_open (c : CF) : ownM (openM c) = openM c := rfl
theorem own_alive : ownM aliveM = aliveM := rfl
theorem readM_nil : readM [] = (MV.zero, 0, (0, 0)) := by unfold readM; rw [if_neg (by simp), if_pos (by simp)]
theorem feed_one {p : PV} {m : MV} (hp : liveP p) (hb : p.buf = []) (hP : (putM m).2 = 0) (hg : goodM m) : feedP p (putM m).1 = takeS (stepOf p) (ownM m) := by
 have hr := readM_put hP hg []
 rw [List.append_nil] at hr
 have hlen : 19 ≤ (putM m).1.length := by rw [putM_len hP]; omega
 have hcl : p = { p with buf := [] } := by cases p; simp only at hb; rw [hb]
 have hb3 : p.buf ++ (putM m).1 = (putM m).1 := by rw [hb]; rfl
 have e : ({ p with buf := (putM m).1.drop (((putM m).1.length : Nat) : Int).toNat } : PV) = p := by
  rw [Int.toNat_natCast, List.drop_length]; exact hcl.symm
 unfold feedP
 rw [if_pos hp]
 simp only [hb3, stepOf]
 rw [feedS]
 simp only [hr]
 rw [if_neg (by have := hp.2.1; omega), if_neg (by simp), if_neg (by omega), e]
 generalize hs : takeS ⟨p, [], []⟩ (ownM m) = s
 have hbuf : s.p.buf = [] := by
  rw [← hs]; rcases take_buf ⟨p, [], []⟩ (ownM m) with h | h
  ·rw [h]; exact hb
  ·exact h
 cases h : (putM m).1.length with
 | zero => rfl
 | succ k =>
  rw [feedS]
  split
  ·rfl
  ·rw [hbuf, readM_nil, if_neg (by simp), if_pos rfl]
theorem feed_nothing {p : PV} (hb : p.buf = []) : feedP p [] = stepOf p := by
 unfold feedP
 split
 ·rename_i hp
  rw [feedS]
  have e : ({ p with buf := p.buf ++ [] } : PV) = p := by rw [List.append_nil]
  rw [e]
  simp only [stepOf]
  rw [if_neg (by show ¬ p.state = 1; have := hp.2.1; omega)]
  show (if (readM p.buf).2.2 ≠ (0, 0) then _ else _) = _
  rw [hb, readM_nil, if_neg (by simp), if_pos rfl]
 ·rfl
def heardP (c : CF) (o : CF) (state : Int) : PV := ⟨c, state, [], min c.hold o.hold, 0, 0, o.id⟩
theorem meet_open {c o : CF} (hc : rightC c) (ho : rightC o) (hpe : c.peer = o.asn) (hid : o.id ≠ c.id) (u1 : u32 o.asn) (u2 : u32 o.id) :
  feedP (freshP c 2) (putM (openM o)).1 = ⟨heardP c o 3, (putM aliveM).1, []⟩ := by
 rw [feed_one (m := openM o) ⟨hc, by show (1 : Int) < 2; omega, by show (2 : Int) ≤ 4; omega⟩ rfl (put_open ho) (good_open u1 u2), own_open]
 unfold takeS
 rw [if_neg (by show ¬ (1 : Int) = 3; omega), if_pos (show (stepOf (freshP c 2)).p.state = 2 from rfl), if_pos (show (openM o).kind = 1 from rfl)]
 unfold openS
 rw [if_neg (by show ¬ o.asn ≠ c.peer; rw [hpe]; simp), if_neg (by show ¬ o.id = c.id; exact hid)]
 rfl
theorem meet_alive {c o : CF} (hc : rightC c) : feedP (heardP c o 3) (putM aliveM).1 = ⟨heardP c o 4, [], [⟨1, MV.zero⟩]⟩ := by
 rw [feed_one (m := aliveM) ⟨hc, by show (1 : Int) < 3; omega, by show (3 : Int) ≤ 4; omega⟩ rfl put_alive good_alive, own_alive]
 unfold takeS
 rw [if_neg (by show ¬ (4 : Int) = 3; omega), if_neg (by show ¬ (3 : Int) = 2; omega), if_pos (show (stepOf (heardP c o 3)).p.state = 3 from rfl), if_pos (show aliveM.kind = 4 from rfl)]
 rfl
def tickN (h : Int) : Int := max 1 (h.tdiv 3)
def tickOut (h : Int) : List Int := if h = 0 then [] else (putM aliveM).1
def tickedP (c o : CF) : PV := if min c.hold o.hold = 0 then heardP c o 4 else { heardP c o 4 with heard := tickN (min c.hold o.hold) }
theorem hold_min {c o : CF} (hc : rightC c) (ho : rightC o) : min c.hold o.hold = 0 ∨ (3 ≤ min c.hold o.hold ∧ min c.hold o.hold ≤ 65535) := by
 have h1 := hc.2.2.2
 have h2 := ho.2.2.2
 omega
theorem tick_up {c o : CF} (hc : rightC c) (ho : rightC o) : tickP (heardP c o 4) (tickN (min c.hold o.hold)) = ⟨tickedP c o, tickOut (min c.hold o.hold), []⟩ := by
 have hm := hold_min hc ho
 obtain ⟨h, hh⟩ : ∃ h, h = min c.hold o.hold := ⟨_, rfl⟩
 rw [← hh] at hm
 have hl : liveP (heardP c o 4) := ⟨hc, by show (1 : Int) < 4; omega, by show (4 : Int) ≤ 4; omega⟩
 have hd : 0 ≤ h → h.tdiv 3 = h / 3 := fun h0 => Int.tdiv_eq_ediv_of_nonneg h0
 have ht : 1 ≤ tickN h ∧ tickN h ≤ 65536 ∧ (h ≠ 0 → tickN h = h / 3 ∧ tickN h < h) := by
  unfold tickN; rw [hd (by omega)]; omega
 have hw : wrapI (tickN h) = tickN h := by unfold wrapI; exact w_i64 (by omega) (by omega)
 have hH : (heardP c o 4).hold = h := hh.symm
 have hz : wrapI ((heardP c o 4).heard + tickN h) = tickN h := by show wrapI (0 + tickN h) = _; rw [Int.zero_add, hw]
 have hz2 : wrapI ((heardP c o 4).said + tickN h) = tickN h := by show wrapI (0 + tickN h) = _; rw [Int.zero_add, hw]
 unfold tickP tickedP tickOut
 rw [← hh, hz, hz2, if_neg (by rintro (h' | h' | h'); exact h' hl; omega; omega), if_neg (by show ¬ (4 : Int) = 2; omega), hH]
 by_cases h0 : h = 0
 ·rw [if_pos h0, if_pos h0, if_pos h0]; rfl
 ·rw [if_neg h0, if_neg h0, if_neg h0]
  rw [if_neg (by omega), if_pos (by rw [hd (by omega)]; omega)]
  subst hh
  rfl
theorem tick_heard {c o : CF} (hc : rightC c) (ho : rightC o) : feedP (tickedP c o) (tickOut (min c.hold o.hold)) = ⟨heardP c o 4, [], []⟩ := by
 unfold tickedP tickOut
 by_cases h0 : min c.hold o.hold = 0
 ·rw [if_pos h0, if_pos h0, feed_nothing rfl]; rfl
 ·rw [if_neg h0, if_neg h0, feed_one (m := aliveM) ⟨hc, by show (1 : Int) < 4; omega, by show (4 : Int) ≤ 4; omega⟩ rfl put_alive good_alive, own_alive]
  unfold takeS
  rw [if_neg (by show ¬ (4 : Int) = 3; omega), if_neg (by show ¬ (4 : Int) = 2; omega), if_neg (by show ¬ (4 : Int) = 3; omega), if_pos (show (stepOf ({ heardP c o 4 with heard := tickN (min c.hold o.hold) } : PV)).p.state = 4 from rfl), if_neg (show ¬ aliveM.kind = 1 by decide), if_neg (show ¬ aliveM.kind = 2 by decide)]
  rfl
end Go.Proofs.Ytbdejnnbpdgjlaa.Ax
