/- Contracts of functions over the abstract machine. No conditions: lemmas alone. -/
import Derived.Test.YtbdejnnbpdgjlaaPeerXLibD
import Derived.Test.YtbdejnnbpdgjlaaPeerXP0
import Derived.Test.YtbdejnnbpdgjlaaPeerXP25
namespace Go.Proofs.Ytbdejnnbpdgjlaa.Ax
open Go Go.RowKit
open Nat renaming reduceAdd → ν1, reduceMul → ν2, reduceLeDiff → ν3, reduceLT → ν4, reduceSub → ν5
open Int renaming reduceNe → ζ1, reduceEq → ζ2, reduceLE → ζ3, reduceLT → ζ4, reduceToNat → ζ5
set_option linter.unusedVariables false
set_option linter.unusedSimpArgs false
set_option maxRecDepth 100000
set_option maxHeartbeats 20000000
attribute [local irreducible] thenA blockA scopeA retA AL AW AD ADL AH clrK CallA apure aload bload appK ptrK fnK ares szOk planOk okOps
def EvR (lo : Nat) (M : Mem) (r : Value) (s : ST) : Prop := ∃ vb vo ve ws, r = .tuple ⟨[.agg ⟨pvL s.p vb⟩, vo, ve]⟩ ∧ Sl M vb 1 (ints .u8 s.p.buf) ∧ Sl M vo 1 (ints .u8 s.out) ∧ Sl M ve 18 (evsL ws) ∧ ws.map EW.e = s.evs ∧ (∀ w ∈ ws, w.good M) ∧ (∀ b ∈ blkOf vb, lo ≤ b) ∧ (∀ b ∈ blkOf vo, lo ≤ b) ∧ (∀ b ∈ blkOf ve, lo ≤ b) ∧ ∀ w ∈ ws, ∀ b ∈ w.blk, lo ≤ b
theorem pstop_spec (q : PV) (vb : Value) (code sub : Int) (M : Mem) (hv : Sl M vb 1 (ints .u8 q.buf)) (hl : q.buf.length ≤ 1000000) : CallA Try.prog 38 [.agg ⟨pvL q vb⟩, .int .i64 code, .int .i64 sub] M fun r M' => Fr M M' [] ∧ EvR M.length M' r (stopP q code sub) := by
 have g1 := isSl_cl hv.isSl
 have o1 := isSl_one hv.isSl
 simp only [Value.oneCell'] at o1
 have P2 := Fr.push2 M (.box (pvL q vb)) (.box (pvL (freshP CF.zero 0) (.slice none 0 0)))
 have A2 := (At.push M (.box (pvL q vb))).keep (Fr.push _ (.box (pvL (freshP CF.zero 0) (.slice none 0 0)))) (by simp)
 have B2 := At.push (M ++ [.box (pvL q vb)]) (.box (pvL (freshP CF.zero 0) (.slice none 0 0)))
 rw [List.length_append, List.length_singleton] at B2
 unfold pvL freshP CF.zero at P2 A2 B2
 dsimp only at P2 A2 B2
 have hs0 := hv.isSl
 unfold pvL
 (refine CallA.of_body Try.func38 rfl (by rfl) ?_; simp only [Try.ntmps38, List.length_cons, List.length_nil, List.replicate, List.cons_append, List.nil_append, Nat.reduceSub, Nat.reduceAdd])
 (repeat (first | refine st ?_ | refine σa ?_ | (refine σb ?_; simp (disch := omega) only [push_cast, ↓reduceIte, reduceCtorEq, ν1, ν2, ν3, ν4, ν5, ζ1, ζ2, ζ3, ζ4, ζ5, mem2E, A2.ld, g1, o1, buildE, lsE])))
 generalize M ++ [Blk.box [.int .u32 q.conf.asn, .int .u32 q.conf.id, .int .i64 q.conf.hold, .int .u32 q.conf.peer, .int .i64 q.state, vb, .int .i64 q.hold, .int .i64 q.heard, .int .i64 q.said, .int .u32 q.id]] ++ [Blk.box [.int .u32 0, .int .u32 0, .int .i64 0, .int .u32 0, .int .i64 0, .slice none 0 0, .int .i64 0, .int .i64 0, .int .i64 0, .int .u32 0]] = M2 at *
 obtain ⟨t, ht⟩ : ∃ t, t = M.length := ⟨_, rfl⟩
 rw [← ht] at A2 B2 ⊢
 refine (pbegin_spec q vb M2 (hv.keep P2 (by simp)) hl).mono ?_
 rintro r M3 ⟨f3, p, rfl, w, vo, ve, ws, h3⟩
 have A3 := A2.keep f3 (by simp)
 have B3 := B2.keep f3 (by simp)
 have l2 := B2.lt
 have hpl := h3.lop
 (repeat (first | refine st ?_ | refine σa ?_ | (refine σb ?_; simp (disch := omega) only [push_cast, ↓reduceIte, reduceCtorEq, ν1, ν2, ν3, ν4, ν5, ζ1, ζ2, ζ3, ζ4, ζ5, A3.ld, buildE, lsE])))
 refine (plive_spec q vb M3 hs0).mono ?_
 rintro r M4 ⟨f4, rfl⟩
 have A4 := A3.keep f4 (by simp)
 have B4 := B3.keep f4 (by simp)
 have h4 := h3.keep f4
 have F4 : FrL M2.length M2 M4 := FrL.of (f3.tr f4) (by simp)
 by_cases hr : liveP q
 rotate_left
 ·have e : stopP q code sub = stepOf q := by unfold stopP; rw [if_neg (fun h => hr h.1)]
  rw [e, decide_eq_false hr]
  (repeat (first | refine st ?_ | refine σa ?_ | (refine σb ?_; simp (disch := omega) only [push_cast, ↓reduceIte, reduceCtorEq, ν1, ν2, ν3, ν4, ν5, ζ1, ζ2, ζ3, ζ4, ζ5, Bool.not_true, Bool.not_false, lsE])))
  refine (pend_spec _ p _ w vo ve ws M4 h4).mono ?_
  rintro r ME ⟨fE, rfl⟩
  have hE := h4.keep fE
  have BE := B4.keep fE (by simp)
  have q1 := isSl_cl hE.buf.isSl
  have q2 := isSl_one hE.buf.isSl
  have q3 := isSl_cl hE.out.sl.isSl
  have q4 := isSl_cl hE.evs.sl.isSl
  simp only [Value.oneCell'] at q2
  have Fs := Fr.set ME (t + 1) (.box (pvL (stepOf q).p w))
  have Bs := BE.set (.box (pvL (stepOf q).p w))
  have sb := hE.buf.keep Fs (fun b hb hx => by have := (hE.lob b hb).1; simp at hx; omega)
  have so := hE.out.sl.keep Fs (fun b hb hx => by have := (hE.loo b hb).1; simp at hx; omega)
  have se := hE.evs.sl.keep Fs (fun b hb hx => by have := (hE.loe b hb).1; simp at hx; omega)
  have sg : ∀ x ∈ ws, x.good (ME.set (t + 1) (.box (pvL (stepOf q).p w))) := fun x hx => (hE.good x hx).keep Fs (fun b hb hx' => by have := hE.lom x hx b hb; simp at hx'; omega)
  unfold pvL at Fs Bs sb so se sg ⊢
  (repeat (first | refine st ?_ | refine σa ?_ | (refine σb ?_; simp (disch := omega) only [push_cast, ↓reduceIte, reduceCtorEq, ν1, ν2, ν3, ν4, ν5, ζ1, ζ2, ζ3, ζ4, ζ5, BE.get, BE.same, q1, q2, q3, q4, List.drop_nil, List.append_nil, Bool.not_true, Bool.not_false, boxE, buildE, lsE])))
  ((first | refine retA.ret (by rfl) ?_ | refine retA.normal (by rfl) ?_); simp (disch := omega) only [push_cast, ↓reduceIte, reduceCtorEq, Nat.reduceAdd, Nat.reduceMul, Nat.reduceLeDiff, Nat.reduceLT, Nat.reduceSub, Int.reduceNe, Int.reduceEq, Int.reduceLE, Int.reduceLT, Int.reduceToNat, Bs.ld, q1, q2, q3, q4, buildE])
  exact ⟨((P2.trans ((F4).trans (FrL.of fE (by simp)) |>.fr (Nat.le_refl _))).trans Fs).cut (fun c hc hlt => by simp at hc; omega), w, vo, ve, ws, rfl, sb, so, se, hE.ews, sg, fun b hb => by have := (hE.lob b hb).1; omega, fun b hb => by have := (hE.loo b hb).1; omega, fun b hb => by have := (hE.loe b hb).1; omega, fun x hx b hb => by have := hE.lom x hx b hb; omega⟩
 rw [decide_eq_true hr]
 have wc : IntKind.i64.wrap (IntKind.u8.wrap code) = code % 256 := by rw [wm_u8]; exact w_i64 (by omega) (by omega)
 have wb : IntKind.i64.wrap (IntKind.u8.wrap sub) = sub % 256 := by rw [wm_u8]; exact w_i64 (by omega) (by omega)
 by_cases c1 : code = code % 256
 rotate_left
 ·have d1 : decide (code = code % 256) = false := decide_eq_false c1
  have e : stopP q code sub = stepOf q := by unfold stopP; rw [if_neg (fun h => c1 (by omega))]
  rw [e]
  (repeat (first | refine st ?_ | refine σa ?_ | (refine σb ?_; simp (disch := omega) only [push_cast, ↓reduceIte, reduceCtorEq, ν1, ν2, ν3, ν4, ν5, ζ1, ζ2, ζ3, ζ4, ζ5, wc, wb, d1, Bool.not_true, Bool.not_false, lsE])))
  refine (pend_spec _ p _ w vo ve ws M4 h4).mono ?_
  rintro r ME ⟨fE, rfl⟩
  have hE := h4.keep fE
  have BE := B4.keep fE (by simp)
  have q1 := isSl_cl hE.buf.isSl
  have q2 := isSl_one hE.buf.isSl
  have q3 := isSl_cl hE.out.sl.isSl
  have q4 := isSl_cl hE.evs.sl.isSl
  simp only [Value.oneCell'] at q2
  have Fs := Fr.set ME (t + 1) (.box (pvL (stepOf q).p w))
  have Bs := BE.set (.box (pvL (stepOf q).p w))
  have sb := hE.buf.keep Fs (fun b hb hx => by have := (hE.lob b hb).1; simp at hx; omega)
  have so := hE.out.sl.keep Fs (fun b hb hx => by have := (hE.loo b hb).1; simp at hx; omega)
  have se := hE.evs.sl.keep Fs (fun b hb hx => by have := (hE.loe b hb).1; simp at hx; omega)
  have sg : ∀ x ∈ ws, x.good (ME.set (t + 1) (.box (pvL (stepOf q).p w))) := fun x hx => (hE.good x hx).keep Fs (fun b hb hx' => by have := hE.lom x hx b hb; simp at hx'; omega)
  unfold pvL at Fs Bs sb so se sg ⊢
  (repeat (first | refine st ?_ | refine σa ?_ | (refine σb ?_; simp (disch := omega) only [push_cast, ↓reduceIte, reduceCtorEq, ν1, ν2, ν3, ν4, ν5, ζ1, ζ2, ζ3, ζ4, ζ5, BE.get, BE.same, q1, q2, q3, q4, List.drop_nil, List.append_nil, Bool.not_true, Bool.not_false, boxE, buildE, lsE])))
  ((first | refine retA.ret (by rfl) ?_ | refine retA.normal (by rfl) ?_); simp (disch := omega) only [push_cast, ↓reduceIte, reduceCtorEq, Nat.reduceAdd, Nat.reduceMul, Nat.reduceLeDiff, Nat.reduceLT, Nat.reduceSub, Int.reduceNe, Int.reduceEq, Int.reduceLE, Int.reduceLT, Int.reduceToNat, Bs.ld, q1, q2, q3, q4, buildE])
  exact ⟨((P2.trans ((F4).trans (FrL.of fE (by simp)) |>.fr (Nat.le_refl _))).trans Fs).cut (fun c hc hlt => by simp at hc; omega), w, vo, ve, ws, rfl, sb, so, se, hE.ews, sg, fun b hb => by have := (hE.lob b hb).1; omega, fun b hb => by have := (hE.loo b hb).1; omega, fun b hb => by have := (hE.loe b hb).1; omega, fun x hx b hb => by have := hE.lom x hx b hb; omega⟩
 have d1 : decide (code = code % 256) = true := decide_eq_true c1
 by_cases c2 : sub = sub % 256
 rotate_left
 ·have d2 : decide (sub = sub % 256) = false := decide_eq_false c2
  have e : stopP q code sub = stepOf q := by unfold stopP; rw [if_neg (fun h => c2 (by omega))]
  rw [e]
  (repeat (first | refine st ?_ | refine σa ?_ | (refine σb ?_; simp (disch := omega) only [push_cast, ↓reduceIte, reduceCtorEq, ν1, ν2, ν3, ν4, ν5, ζ1, ζ2, ζ3, ζ4, ζ5, wc, wb, d1, d2, Bool.not_true, Bool.not_false, lsE])))
  refine (pend_spec _ p _ w vo ve ws M4 h4).mono ?_
  rintro r ME ⟨fE, rfl⟩
  have hE := h4.keep fE
  have BE := B4.keep fE (by simp)
  have q1 := isSl_cl hE.buf.isSl
  have q2 := isSl_one hE.buf.isSl
  have q3 := isSl_cl hE.out.sl.isSl
  have q4 := isSl_cl hE.evs.sl.isSl
  simp only [Value.oneCell'] at q2
  have Fs := Fr.set ME (t + 1) (.box (pvL (stepOf q).p w))
  have Bs := BE.set (.box (pvL (stepOf q).p w))
  have sb := hE.buf.keep Fs (fun b hb hx => by have := (hE.lob b hb).1; simp at hx; omega)
  have so := hE.out.sl.keep Fs (fun b hb hx => by have := (hE.loo b hb).1; simp at hx; omega)
  have se := hE.evs.sl.keep Fs (fun b hb hx => by have := (hE.loe b hb).1; simp at hx; omega)
  have sg : ∀ x ∈ ws, x.good (ME.set (t + 1) (.box (pvL (stepOf q).p w))) := fun x hx => (hE.good x hx).keep Fs (fun b hb hx' => by have := hE.lom x hx b hb; simp at hx'; omega)
  unfold pvL at Fs Bs sb so se sg ⊢
  (repeat (first | refine st ?_ | refine σa ?_ | (refine σb ?_; simp (disch := omega) only [push_cast, ↓reduceIte, reduceCtorEq, ν1, ν2, ν3, ν4, ν5, ζ1, ζ2, ζ3, ζ4, ζ5, BE.get, BE.same, q1, q2, q3, q4, List.drop_nil, List.append_nil, Bool.not_true, Bool.not_false, boxE, buildE, lsE])))
  ((first | refine retA.ret (by rfl) ?_ | refine retA.normal (by rfl) ?_); simp (disch := omega) only [push_cast, ↓reduceIte, reduceCtorEq, Nat.reduceAdd, Nat.reduceMul, Nat.reduceLeDiff, Nat.reduceLT, Nat.reduceSub, Int.reduceNe, Int.reduceEq, Int.reduceLE, Int.reduceLT, Int.reduceToNat, Bs.ld, q1, q2, q3, q4, buildE])
  exact ⟨((P2.trans ((F4).trans (FrL.of fE (by simp)) |>.fr (Nat.le_refl _))).trans Fs).cut (fun c hc hlt => by simp at hc; omega), w, vo, ve, ws, rfl, sb, so, se, hE.ews, sg, fun b hb => by have := (hE.lob b hb).1; omega, fun b hb => by have := (hE.loo b hb).1; omega, fun b hb => by have := (hE.loe b hb).1; omega, fun x hx b hb => by have := hE.lom x hx b hb; omega⟩
 have d2 : decide (sub = sub % 256) = true := decide_eq_true c2
 have e : stopP q code sub = downP (stepOf q) code sub := by unfold stopP; rw [if_pos ⟨hr, by omega, by omega, by omega, by omega⟩]
 rw [e]
 (repeat (first | refine st ?_ | refine σa ?_ | (refine σb ?_; simp (disch := omega) only [push_cast, ↓reduceIte, reduceCtorEq, ν1, ν2, ν3, ν4, ν5, ζ1, ζ2, ζ3, ζ4, ζ5, wc, wb, d1, d2, Bool.not_true, Bool.not_false, lsE])))
 refine (pdown_spec M2.length p (stepOf q) w vo ve ws code sub M4 h4 (by show 0 ≤ 10000000; omega) (by show 0 ≤ 1000000; omega) F4.1).mono ?_
 rintro r M6 ⟨rfl, F6, w6, vo6, ve6, ws6, h6⟩
 have FF := F4.trans F6
 have B6 := B4.keepL F6 (by omega)
 (repeat (first | refine st ?_ | refine σa ?_ | (refine σb ?_; simp (disch := omega) only [push_cast, ↓reduceIte, reduceCtorEq, ν1, ν2, ν3, ν4, ν5, ζ1, ζ2, ζ3, ζ4, ζ5, lsE])))
 refine (pend_spec _ p _ w6 vo6 ve6 ws6 M6 h6).mono ?_
 rintro r ME ⟨fE, rfl⟩
 have hE := h6.keep fE
 have BE := B6.keep fE (by simp)
 have q1 := isSl_cl hE.buf.isSl
 have q2 := isSl_one hE.buf.isSl
 have q3 := isSl_cl hE.out.sl.isSl
 have q4 := isSl_cl hE.evs.sl.isSl
 simp only [Value.oneCell'] at q2
 have Fs := Fr.set ME (t + 1) (.box (pvL (downP (stepOf q) code sub).p w6))
 have Bs := BE.set (.box (pvL (downP (stepOf q) code sub).p w6))
 have sb := hE.buf.keep Fs (fun b hb hx => by have := (hE.lob b hb).1; simp at hx; omega)
 have so := hE.out.sl.keep Fs (fun b hb hx => by have := (hE.loo b hb).1; simp at hx; omega)
 have se := hE.evs.sl.keep Fs (fun b hb hx => by have := (hE.loe b hb).1; simp at hx; omega)
 have sg : ∀ x ∈ ws6, x.good (ME.set (t + 1) (.box (pvL (downP (stepOf q) code sub).p w6))) := fun x hx => (hE.good x hx).keep Fs (fun b hb hx' => by have := hE.lom x hx b hb; simp at hx'; omega)
 unfold pvL at Fs Bs sb so se sg ⊢
 (repeat (first | refine st ?_ | refine σa ?_ | (refine σb ?_; simp (disch := omega) only [push_cast, ↓reduceIte, reduceCtorEq, ν1, ν2, ν3, ν4, ν5, ζ1, ζ2, ζ3, ζ4, ζ5, BE.get, BE.same, q1, q2, q3, q4, List.drop_nil, List.append_nil, Bool.not_true, Bool.not_false, boxE, buildE, lsE])))
 ((first | refine retA.ret (by rfl) ?_ | refine retA.normal (by rfl) ?_); simp (disch := omega) only [push_cast, ↓reduceIte, reduceCtorEq, Nat.reduceAdd, Nat.reduceMul, Nat.reduceLeDiff, Nat.reduceLT, Nat.reduceSub, Int.reduceNe, Int.reduceEq, Int.reduceLE, Int.reduceLT, Int.reduceToNat, Bs.ld, q1, q2, q3, q4, buildE])
 exact ⟨((P2.trans ((FF).trans (FrL.of fE (by simp)) |>.fr (Nat.le_refl _))).trans Fs).cut (fun c hc hlt => by simp at hc; omega), w6, vo6, ve6, ws6, rfl, sb, so, se, hE.ews, sg, fun b hb => by have := (hE.lob b hb).1; omega, fun b hb => by have := (hE.loo b hb).1; omega, fun b hb => by have := (hE.loe b hb).1; omega, fun x hx b hb => by have := hE.lom x hx b hb; omega⟩
end Go.Proofs.Ytbdejnnbpdgjlaa.Ax
