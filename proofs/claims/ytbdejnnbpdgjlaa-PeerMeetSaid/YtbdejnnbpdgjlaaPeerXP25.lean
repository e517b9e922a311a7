/- Contracts of functions over the abstract machine. No conditions: lemmas alone. -/
import Derived.Test.YtbdejnnbpdgjlaaPeerXLibD
import Derived.Test.YtbdejnnbpdgjlaaPeerXP0
import Derived.Test.YtbdejnnbpdgjlaaPeerXP24
namespace Go.Proofs.Ytbdejnnbpdgjlaa.Ax
open Go Go.RowKit
open Nat renaming reduceAdd → ν1, reduceMul → ν2, reduceLeDiff → ν3, reduceLT → ν4, reduceSub → ν5
open Int renaming reduceNe → ζ1, reduceEq → ζ2, reduceLE → ζ3, reduceLT → ζ4, reduceToNat → ζ5
set_option linter.unusedVariables false
set_option linter.unusedSimpArgs false
set_option maxRecDepth 100000
set_option maxHeartbeats 20000000
attribute [local irreducible] thenA blockA scopeA retA AL AW AD ADL AH clrK CallA apure aload bload appK ptrK fnK ares szOk planOk okOps
theorem d71_Pe6 {g n : Prop} (k : n) (h : n → g := by first | exact AW.dr (id := 19) (by rfl) [0, 1, 2, 3, 4, 5, 6, 7, 8, 9, 10, 11] (by kernel_rfl) (by kernel_rfl)) : g := h k
theorem ptake_spec (lo p : Nat) (s : ST) (vb vo ve : Value) (ws : List EW) (m : MV) (g a c n d : Value) (M : Mem) (h : ActW lo M p s vb vo ve ws) (hin : MVin M m g a c n d) (hmb : ∀ b ∈ blkOf g ++ (blkOf a ++ (blkOf c ++ (blkOf n ++ blkOf d))), b ≠ p ∧ b ∉ blkOf vo ∧ b ∉ blkOf ve) (hml : ∀ b ∈ blkOf g ++ (blkOf a ++ (blkOf c ++ (blkOf n ++ blkOf d))), lo ≤ b)
  (hst : 2 ≤ s.p.state ∧ s.p.state ≤ 4) (hl : s.out.length ≤ 10000000) (hle : s.evs.length ≤ 999999) (hlo : lo ≤ M.length) :
  CallA Try.prog 71 [.pointer (some ⟨p, 0, none⟩), .agg ⟨mvL m g a c n d⟩] M fun r M' => r = .tuple ⟨[]⟩ ∧ FrL lo M M' ∧ ActA lo M' p (takeS s m) := by
 have hi : isSl g = true ∧ isSl a = true ∧ isSl c = true ∧ isSl n = true ∧ isSl d = true := ⟨hin.gone.isSl, hin.path.isSl, hin.comms.isSl, hin.new.isSl, hin.data.isSl⟩
 have o1 := mvL_one (m := m) hi
 have P0 := Fr.push M (.box (mvL m g a c n d))
 have A0 := At.push M (.box (mvL m g a c n d))
 have h0 := h.keep P0
 have hp := h.lt
 have hwl := h.len
 (refine CallA.of_body Try.func71 rfl (by rfl) ?_; simp only [Try.ntmps71, List.length_cons, List.length_nil, List.replicate, List.cons_append, List.nil_append, Nat.reduceSub, Nat.reduceAdd])
 (repeat (first | refine st ?_ | refine σa ?_ | refine d71_Pe6 ?_ | ((first | refine σb ?_ | refine σc ?_); simp (disch := omega) only [push_cast, ↓reduceIte, reduceCtorEq, ν1, ν2, ν3, ν4, ν5, ζ1, ζ2, ζ3, ζ4, ζ5, o1, lsE])))
 obtain ⟨t, ht⟩ : ∃ t, t = M.length := ⟨_, rfl⟩
 rw [← ht] at A0 hp ⊢
 have hin0 := hin.keep P0 (by simp)
 generalize hM0 : M ++ [Blk.box (mvL m g a c n d)] = M0 at *
 have hl0 := A0.lt
 have A1 := A0
 unfold mvL at A1
 have b0 := h0.box
 unfold acL at b0
 have F0 : FrL lo M M0 := FrL.of P0 (by simp)
 have hlo0 : lo ≤ M0.length := by omega
 simp (disch := omega) only [push_cast, ↓reduceIte, reduceCtorEq, Nat.reduceAdd, Nat.reduceMul, Nat.reduceLeDiff, Nat.reduceLT, Nat.reduceSub, Int.reduceNe, Int.reduceEq, Int.reduceLE, Int.reduceLT, Int.reduceToNat, A1.ld, buildE]
 by_cases k3 : m.kind = 3
 ·have d3 : decide (m.kind = 3) = true := decide_eq_true k3
  have e : takeS s m = quietP s := by unfold takeS; rw [if_pos k3]
  rw [e]
  (repeat (first | refine st ?_ | refine σa ?_ | refine d71_Pe6 ?_ | ((first | refine σb ?_ | refine σc ?_); simp (disch := omega) only [push_cast, ↓reduceIte, reduceCtorEq, ν1, ν2, ν3, ν4, ν5, ζ1, ζ2, ζ3, ζ4, ζ5, d3, Bool.not_true, Bool.not_false, lsE])))
  refine (pquiet_spec lo p s vb vo ve ws M0 h0 (by omega) hlo0).mono ?_
  rintro r M1 ⟨rfl, F1, h1⟩
  (repeat (first | refine st ?_ | refine σa ?_ | refine d71_Pe6 ?_ | ((first | refine σb ?_ | refine σc ?_); simp (disch := omega) only [push_cast, ↓reduceIte, reduceCtorEq, ν1, ν2, ν3, ν4, ν5, ζ1, ζ2, ζ3, ζ4, ζ5, lsE])))
  ((first | refine retA.ret (by rfl) ?_ | refine retA.normal (by rfl) ?_); simp (disch := omega) only [push_cast, ↓reduceIte, reduceCtorEq, Nat.reduceAdd, Nat.reduceMul, Nat.reduceLeDiff, Nat.reduceLT, Nat.reduceSub, Int.reduceNe, Int.reduceEq, Int.reduceLE, Int.reduceLT, Int.reduceToNat])
  exact ⟨F0.trans F1, h1⟩
 have d3 : decide (m.kind = 3) = false := decide_eq_false k3
 by_cases s2 : s.p.state = 2
 ·have e2 : decide (s.p.state = 2) = true := decide_eq_true s2
  by_cases k1 : m.kind = 1
  ·have d1 : decide (m.kind = 1) = true := decide_eq_true k1
   have e : takeS s m = openS s m := by unfold takeS; rw [if_neg k3, if_pos s2, if_pos k1]
   rw [e]
   (repeat (first | refine st ?_ | refine σa ?_ | refine d71_Pe6 ?_ | ((first | refine σb ?_ | refine σc ?_); simp (disch := omega) only [push_cast, ↓reduceIte, reduceCtorEq, ν1, ν2, ν3, ν4, ν5, ζ1, ζ2, ζ3, ζ4, ζ5, d3, b0.ld, A1.ld, e2, d1, Bool.not_true, Bool.not_false, buildE, lsE])))
   refine (popen_spec lo p s vb vo ve ws m g a c n d M0 h0 hi hl (by omega) hlo0).mono ?_
   rintro r M1 ⟨rfl, F1, h1⟩
   (repeat (first | refine st ?_ | refine σa ?_ | refine d71_Pe6 ?_ | ((first | refine σb ?_ | refine σc ?_); simp (disch := omega) only [push_cast, ↓reduceIte, reduceCtorEq, ν1, ν2, ν3, ν4, ν5, ζ1, ζ2, ζ3, ζ4, ζ5, lsE])))
   ((first | refine retA.ret (by rfl) ?_ | refine retA.normal (by rfl) ?_); simp (disch := omega) only [push_cast, ↓reduceIte, reduceCtorEq, Nat.reduceAdd, Nat.reduceMul, Nat.reduceLeDiff, Nat.reduceLT, Nat.reduceSub, Int.reduceNe, Int.reduceEq, Int.reduceLE, Int.reduceLT, Int.reduceToNat])
   exact ⟨F0.trans F1, h1⟩
  ·have d1 : decide (m.kind = 1) = false := decide_eq_false k1
   have e : takeS s m = downP s 5 1 := by unfold takeS; rw [if_neg k3, if_pos s2, if_neg k1]
   rw [e]
   have w1 : IntKind.i64.wrap (s.p.state - 1) = 1 := by rw [s2]; rfl
   (repeat (first | refine st ?_ | refine σa ?_ | refine d71_Pe6 ?_ | ((first | refine σb ?_ | refine σc ?_); simp (disch := omega) only [push_cast, ↓reduceIte, reduceCtorEq, ν1, ν2, ν3, ν4, ν5, ζ1, ζ2, ζ3, ζ4, ζ5, d3, b0.ld, A1.ld, e2, d1, w1, Bool.not_true, Bool.not_false, buildE, lsE])))
   refine (pdown_spec lo p s vb vo ve ws 5 1 M0 h0 hl (by omega) hlo0).mono ?_
   rintro r M1 ⟨rfl, F1, h1⟩
   (repeat (first | refine st ?_ | refine σa ?_ | refine d71_Pe6 ?_ | ((first | refine σb ?_ | refine σc ?_); simp (disch := omega) only [push_cast, ↓reduceIte, reduceCtorEq, ν1, ν2, ν3, ν4, ν5, ζ1, ζ2, ζ3, ζ4, ζ5, lsE])))
   ((first | refine retA.ret (by rfl) ?_ | refine retA.normal (by rfl) ?_); simp (disch := omega) only [push_cast, ↓reduceIte, reduceCtorEq, Nat.reduceAdd, Nat.reduceMul, Nat.reduceLeDiff, Nat.reduceLT, Nat.reduceSub, Int.reduceNe, Int.reduceEq, Int.reduceLE, Int.reduceLT, Int.reduceToNat])
   exact ⟨F0.trans F1, h1⟩
 have e2 : decide (s.p.state = 2) = false := decide_eq_false s2
 have so := h.out.sl.isSl
 have co := isSl_cl so
 have oo := isSl_one so
 have se := h.evs.sl.isSl
 have ce := isSl_cl se
 have oe := isSl_one se
 have sb := h.buf.isSl
 have cb := isSl_cl sb
 have ob := isSl_one sb
 simp only [Value.oneCell'] at oo oe ob
 have hpt : p ≠ t := by omega
 have hp0 : p < M0.length := by omega
 by_cases s3 : s.p.state = 3
 ·have e3 : decide (s.p.state = 3) = true := decide_eq_true s3
  by_cases k4 : m.kind = 4
  rotate_left
  ·have d4 : decide (m.kind = 4) = false := decide_eq_false k4
   have e : takeS s m = downP s 5 2 := by unfold takeS; rw [if_neg k3, if_neg s2, if_pos s3, if_neg k4]
   rw [e]
   have w1 : IntKind.i64.wrap (s.p.state - 1) = 2 := by rw [s3]; rfl
   (repeat (first | refine st ?_ | refine σa ?_ | refine d71_Pe6 ?_ | ((first | refine σb ?_ | refine σc ?_); simp (disch := omega) only [push_cast, ↓reduceIte, reduceCtorEq, ν1, ν2, ν3, ν4, ν5, ζ1, ζ2, ζ3, ζ4, ζ5, d3, b0.ld, A1.ld, e2, e3, d4, w1, Bool.not_true, Bool.not_false, buildE, lsE])))
   refine (pdown_spec lo p s vb vo ve ws 5 2 M0 h0 hl (by omega) hlo0).mono ?_
   rintro r M1 ⟨rfl, F1, h1⟩
   (repeat (first | refine st ?_ | refine σa ?_ | refine d71_Pe6 ?_ | ((first | refine σb ?_ | refine σc ?_); simp (disch := omega) only [push_cast, ↓reduceIte, reduceCtorEq, ν1, ν2, ν3, ν4, ν5, ζ1, ζ2, ζ3, ζ4, ζ5, lsE])))
   ((first | refine retA.ret (by rfl) ?_ | refine retA.normal (by rfl) ?_); simp (disch := omega) only [push_cast, ↓reduceIte, reduceCtorEq, Nat.reduceAdd, Nat.reduceMul, Nat.reduceLeDiff, Nat.reduceLT, Nat.reduceSub, Int.reduceNe, Int.reduceEq, Int.reduceLE, Int.reduceLT, Int.reduceToNat])
   exact ⟨F0.trans F1, h1⟩
  have d4 : decide (m.kind = 4) = true := decide_eq_true k4
  obtain ⟨h1, F1⟩ := h0.setP { s.p with state := 4, heard := 0 } h0.buf h0.lob
  have b1 := h1.box
  unfold acL at h1 F1 b1
  dsimp only at h1 F1 b1
  (repeat (first | refine st ?_ | refine σa ?_ | refine d71_Pe6 ?_ | ((first | refine σb ?_ | refine σc ?_); simp (disch := omega) only [push_cast, ↓reduceIte, reduceCtorEq, ν1, ν2, ν3, ν4, ν5, ζ1, ζ2, ζ3, ζ4, ζ5, d3, b0.ld, b0.get, b0.same, b1.ld, A1.ld, ld_ne, e2, e3, d4, co, oo, ce, oe, cb, ob, List.drop_nil, List.append_nil, Bool.not_true, Bool.not_false, boxE, buildE, lsE])))
  have hM1 : (M0.set p (Blk.box [.int .u32 s.p.conf.asn, .int .u32 s.p.conf.id, .int .i64 s.p.conf.hold, .int .u32 s.p.conf.peer, .int .i64 4, vb, .int .i64 s.p.hold, .int .i64 0, .int .i64 s.p.said, .int .u32 s.p.id, vo, ve])).length = M0.length := List.length_set
  generalize M0.set p (Blk.box [.int .u32 s.p.conf.asn, .int .u32 s.p.conf.id, .int .i64 s.p.conf.hold, .int .u32 s.p.conf.peer, .int .i64 4, vb, .int .i64 s.p.hold, .int .i64 0, .int .i64 s.p.said, .int .u32 s.p.id, vo, ve]) = M1 at *
  rw [← hM1]
  have Pr := Fr.push M1 (.row true 18 (EW.bare 1).cells)
  have hr := New.row M1 (s := 18) (n := 1) (cs := (EW.bare 1).cells) (by omega) rfl rfl (by decide)
  have h2 := h1.keep Pr
  refine appK.elems (P := Try.prog) (e := 101) (s := 18) (bt := 192) (z := [.int .i64 0, .int .i64 0, .int .u32 0, .int .u32 0, .int .i64 0, .slice none 0 0, .int .i64 0, .slice none 0 0, .int .u32 0, .int .u32 0, .int .u32 0, .bool false, .bool false, .slice none 0 0, .slice none 0 0, .int .i64 0, .int .i64 0, .slice none 0 0]) (by kernel_rfl) (by kernel_rfl) (by kernel_rfl) rfl (by kernel_rfl) (by decide) h2.evs hr.sl (by rw [evsL_length]; show (ws.length * 18 + 18) * _ ≤ _; omega) ?_
  intro v' M2 hN hF
  have c2 := isSl_cl hN.1.sl.isSl
  have o2 := isSl_one hN.1.sl.isSl
  simp only [Value.oneCell'] at o2
  have bx2 := h2.box.keep hF (fun hx => (h2.loe p hx).2 rfl)
  have hT := h2.told (w := EW.bare 1) hN hF (EW.bare_good _ _) (by simp [EW.bare, EW.blk, blkOf]) (by simp [EW.bare, EW.blk, blkOf])
  unfold acL at bx2
  dsimp only at bx2
  (repeat (first | refine st ?_ | refine σa ?_ | refine d71_Pe6 ?_ | ((first | refine σb ?_ | refine σc ?_); simp (disch := omega) only [push_cast, ↓reduceIte, reduceCtorEq, ν1, ν2, ν3, ν4, ν5, ζ1, ζ2, ζ3, ζ4, ζ5, bx2.get, bx2.same, c2, o2, List.drop_nil, List.append_nil, boxE, buildE, lsE])))
  ((first | refine retA.ret (by rfl) ?_ | refine retA.normal (by rfl) ?_); simp (disch := omega) only [push_cast, ↓reduceIte, reduceCtorEq, Nat.reduceAdd, Nat.reduceMul, Nat.reduceLeDiff, Nat.reduceLT, Nat.reduceSub, Int.reduceNe, Int.reduceEq, Int.reduceLE, Int.reduceLT, Int.reduceToNat])
  have e : takeS s m = { s with p := { s.p with state := 4, heard := 0 }, evs := s.evs ++ [⟨1, MV.zero⟩] } := by unfold takeS; rw [if_neg k3, if_neg s2, if_pos s3, if_pos k4]
  rw [e]
  exact ⟨((F0.trans F1).trans (FrL.of Pr (by simp))).trans hT.2, vb, vo, v', ws ++ [EW.bare 1], hT.1⟩
 have e3 : decide (s.p.state = 3) = false := decide_eq_false s3
 have s4 : s.p.state = 4 := by omega
 have e4 : decide (s.p.state = 4) = true := decide_eq_true s4
 by_cases k1 : m.kind = 1
 ·have d1 : decide (m.kind = 1) = true := decide_eq_true k1
  have e : takeS s m = downP s 5 3 := by unfold takeS; rw [if_neg k3, if_neg s2, if_neg s3, if_pos s4, if_pos k1]
  rw [e]
  obtain ⟨h1, F1⟩ := h0.setP { s.p with heard := 0 } h0.buf h0.lob
  have b1 := h1.box
  unfold acL at h1 F1 b1
  dsimp only at h1 F1 b1
  have w1 : IntKind.i64.wrap (s.p.state - 1) = 3 := by rw [s4]; rfl
  (repeat (first | refine st ?_ | refine σa ?_ | refine d71_Pe6 ?_ | ((first | refine σb ?_ | refine σc ?_); simp (disch := omega) only [push_cast, ↓reduceIte, reduceCtorEq, ν1, ν2, ν3, ν4, ν5, ζ1, ζ2, ζ3, ζ4, ζ5, d3, b0.ld, b0.get, b0.same, b1.ld, A1.ld, ld_ne, e2, e3, e4, d1, w1, co, oo, ce, oe, cb, ob, List.drop_nil, List.append_nil, Bool.not_true, Bool.not_false, boxE, buildE, lsE])))
  refine (pdown_spec lo p _ vb vo ve ws 5 3 _ h1 hl (by show s.evs.length ≤ 1000000; omega) (by rw [List.length_set]; exact hlo0)).mono ?_
  rintro r M1 ⟨rfl, F2, h2⟩
  (repeat (first | refine st ?_ | refine σa ?_ | refine d71_Pe6 ?_ | ((first | refine σb ?_ | refine σc ?_); simp (disch := omega) only [push_cast, ↓reduceIte, reduceCtorEq, ν1, ν2, ν3, ν4, ν5, ζ1, ζ2, ζ3, ζ4, ζ5, lsE])))
  ((first | refine retA.ret (by rfl) ?_ | refine retA.normal (by rfl) ?_); simp (disch := omega) only [push_cast, ↓reduceIte, reduceCtorEq, Nat.reduceAdd, Nat.reduceMul, Nat.reduceLeDiff, Nat.reduceLT, Nat.reduceSub, Int.reduceNe, Int.reduceEq, Int.reduceLE, Int.reduceLT, Int.reduceToNat])
  exact ⟨(F0.trans F1).trans F2, h2⟩
 have d1 : decide (m.kind = 1) = false := decide_eq_false k1
 by_cases k2 : m.kind = 2
 rotate_left
 ·have d2 : decide (m.kind = 2) = false := decide_eq_false k2
  have e : takeS s m = { s with p := { s.p with heard := 0 } } := by unfold takeS; rw [if_neg k3, if_neg s2, if_neg s3, if_pos s4, if_neg k1, if_neg k2]
  rw [e]
  obtain ⟨h1, F1⟩ := h0.setP { s.p with heard := 0 } h0.buf h0.lob
  unfold acL at h1 F1
  dsimp only at h1 F1
  (repeat (first | refine st ?_ | refine σa ?_ | refine d71_Pe6 ?_ | ((first | refine σb ?_ | refine σc ?_); simp (disch := omega) only [push_cast, ↓reduceIte, reduceCtorEq, ν1, ν2, ν3, ν4, ν5, ζ1, ζ2, ζ3, ζ4, ζ5, d3, b0.ld, b0.get, b0.same, A1.ld, ld_ne, e2, e3, e4, d1, d2, co, oo, ce, oe, cb, ob, List.drop_nil, List.append_nil, Bool.not_true, Bool.not_false, boxE, buildE, lsE])))
  ((first | refine retA.ret (by rfl) ?_ | refine retA.normal (by rfl) ?_); simp (disch := omega) only [push_cast, ↓reduceIte, reduceCtorEq, Nat.reduceAdd, Nat.reduceMul, Nat.reduceLeDiff, Nat.reduceLT, Nat.reduceSub, Int.reduceNe, Int.reduceEq, Int.reduceLE, Int.reduceLT, Int.reduceToNat])
  exact ⟨F0.trans F1, vb, vo, ve, ws, h1⟩
 have d2 : decide (m.kind = 2) = true := decide_eq_true k2
 have e : takeS s m = { s with p := { s.p with heard := 0 }, evs := s.evs ++ [⟨2, m⟩] } := by unfold takeS; rw [if_neg k3, if_neg s2, if_neg s3, if_pos s4, if_neg k1, if_pos k2]
 rw [e]
 (repeat (first | refine st ?_ | refine σa ?_ | refine d71_Pe6 ?_ | ((first | refine σb ?_ | refine σc ?_); simp (disch := omega) only [push_cast, ↓reduceIte, reduceCtorEq, ν1, ν2, ν3, ν4, ν5, ζ1, ζ2, ζ3, ζ4, ζ5, d3, b0.ld, b0.get, b0.same, A1.ld, ld_ne, e2, e3, e4, d1, d2, co, oo, ce, oe, cb, ob, List.drop_nil, List.append_nil, Bool.not_true, Bool.not_false, boxE, buildE, lsE])))
 have hrow : (EW.mk ⟨2, m⟩ g a c n d).cells = [.int .i64 2, .int .i64 m.kind, .int .u32 m.asn, .int .u32 m.id, .int .i64 m.hold, g, .int .i64 m.attrs.origin, a, .int .u32 m.attrs.hop, .int .u32 m.attrs.med, .int .u32 m.attrs.pref, .bool m.attrs.hasMed, .bool m.attrs.hasPref, c, n, .int .i64 m.code, .int .i64 m.sub, d] := rfl
 have hone : ((EW.mk ⟨2, m⟩ g a c n d).cells).all Value.oneCell' = true := by
  show (Value.oneCell' (.int .i64 2) && (mvL m g a c n d).all Value.oneCell') = true
  rw [o1]; rfl
 have Pr := Fr.push M0 (.row true 18 (EW.mk ⟨2, m⟩ g a c n d).cells)
 have hr := New.row M0 (s := 18) (n := 1) (cs := (EW.mk ⟨2, m⟩ g a c n d).cells) (by omega) rfl hone (by decide)
 rw [← hrow]
 have h2 := h0.keep Pr
 have hin2 : (EW.mk ⟨2, m⟩ g a c n d).good (M0 ++ [.row true 18 (EW.mk ⟨2, m⟩ g a c n d).cells]) := hin0.keep Pr (by simp)
 have hbl : ∀ b ∈ (EW.mk ⟨2, m⟩ g a c n d).blk, b < (M0 ++ [Blk.row true 18 (EW.mk ⟨2, m⟩ g a c n d).cells]).length ∧ b ≠ p ∧ b ∉ blkOf vo ∧ b ∉ blkOf ve := by
  intro b hb
  refine ⟨?_, hmb b hb⟩
  unfold EW.blk at hb
  simp only [List.mem_append] at hb
  rcases hb with hb | hb | hb | hb | hb
  ·exact hin2.gone.blks b hb
  ·exact hin2.path.blks b hb
  ·exact hin2.comms.blks b hb
  ·exact hin2.new.blks b hb
  ·exact hin2.data.blks b hb
 refine appK.elems (P := Try.prog) (e := 101) (s := 18) (bt := 192) (z := [.int .i64 0, .int .i64 0, .int .u32 0, .int .u32 0, .int .i64 0, .slice none 0 0, .int .i64 0, .slice none 0 0, .int .u32 0, .int .u32 0, .int .u32 0, .bool false, .bool false, .slice none 0 0, .slice none 0 0, .int .i64 0, .int .i64 0, .slice none 0 0]) (by kernel_rfl) (by kernel_rfl) (by kernel_rfl) rfl (by kernel_rfl) (by decide) h2.evs hr.sl (by rw [evsL_length]; show (ws.length * 18 + 18) * _ ≤ _; omega) ?_
 intro v' M2 hN hF
 have c2 := isSl_cl hN.1.sl.isSl
 have o2 := isSl_one hN.1.sl.isSl
 simp only [Value.oneCell'] at o2
 have bx2 := h2.box.keep hF (fun hx => (h2.loe p hx).2 rfl)
 have hT := h2.told (w := EW.mk ⟨2, m⟩ g a c n d) hN hF hin2 hbl hml
 obtain ⟨h3, F3⟩ := hT.1.setP { s.p with heard := 0 } hT.1.buf hT.1.lob
 have hset : ((M2.set p (.box (acL s.p vb vo v'))).set p (.box (acL { s.p with heard := 0 } vb vo v'))) = M2.set p (.box (acL { s.p with heard := 0 } vb vo v')) := List.set_set ..
 rw [hset] at h3 F3
 have hp2 := bx2.lt
 unfold acL at bx2 h3 F3
 dsimp only at bx2 h3 F3
 (repeat (first | refine st ?_ | refine σa ?_ | refine d71_Pe6 ?_ | ((first | refine σb ?_ | refine σc ?_); simp (disch := omega) only [push_cast, ↓reduceIte, reduceCtorEq, ν1, ν2, ν3, ν4, ν5, ζ1, ζ2, ζ3, ζ4, ζ5, bx2.get, bx2.same, c2, o2, co, oo, cb, ob, List.drop_nil, List.append_nil, Bool.not_true, Bool.not_false, boxE, buildE, lsE])))
 ((first | refine retA.ret (by rfl) ?_ | refine retA.normal (by rfl) ?_); simp (disch := omega) only [push_cast, ↓reduceIte, reduceCtorEq, Nat.reduceAdd, Nat.reduceMul, Nat.reduceLeDiff, Nat.reduceLT, Nat.reduceSub, Int.reduceNe, Int.reduceEq, Int.reduceLE, Int.reduceLT, Int.reduceToNat])
 exact ⟨((F0.trans (FrL.of Pr (by simp))).trans hT.2).trans F3, vb, vo, v', ws ++ [EW.mk ⟨2, m⟩ g a c n d], h3⟩
theorem d36_Pe7 {g n : Prop} (k : n) (h : n → g := by first | exact AW.dr (id := 5) (by rfl) [0, 1, 2, 3, 4, 5, 6, 7, 8, 9] (by kernel_rfl) (by kernel_rfl)) : g := h k
theorem a36_Pe7 {g n : Prop} (k : n) (h : n → g := by first | exact AH.stG (i := 8) (ty := 76) (y := .tmp 36) rfl rfl) : g := h k
theorem pnew_spec (c : CF) (M : Mem) : CallA Try.prog 35 [.agg ⟨cfL c⟩] M fun r M' => Fr M M' [] ∧ r = .tuple ⟨[.agg ⟨pvL (newP c).1 (.slice none 0 0)⟩, .int .i64 (newP c).2]⟩ := by
 have P2 := Fr.push2 M (.box (cfL c)) (.box (pvL (freshP CF.zero 0) (.slice none 0 0)))
 have A2 := (At.push M (.box (cfL c))).keep (Fr.push _ (.box (pvL (freshP CF.zero 0) (.slice none 0 0)))) (by simp)
 have B2 := At.push (M ++ [.box (cfL c)]) (.box (pvL (freshP CF.zero 0) (.slice none 0 0)))
 rw [List.length_append, List.length_singleton] at B2
 unfold cfL pvL freshP CF.zero at P2 A2 B2
 dsimp only at P2 A2 B2
 unfold cfL
 (refine CallA.of_body Try.func35 rfl (by rfl) ?_; simp only [Try.ntmps35, List.length_cons, List.length_nil, List.replicate, List.cons_append, List.nil_append, Nat.reduceSub, Nat.reduceAdd])
 (repeat (first | refine st ?_ | refine σa ?_ | (refine σb ?_; simp (disch := omega) only [push_cast, ↓reduceIte, reduceCtorEq, ν1, ν2, ν3, ν4, ν5, ζ1, ζ2, ζ3, ζ4, ζ5, mem2E, A2.ld, buildE, lsE])))
 generalize M ++ [Blk.box [.int .u32 c.asn, .int .u32 c.id, .int .i64 c.hold, .int .u32 c.peer]] ++ [Blk.box [.int .u32 0, .int .u32 0, .int .i64 0, .int .u32 0, .int .i64 0, .slice none 0 0, .int .i64 0, .int .i64 0, .int .i64 0, .int .u32 0]] = M2 at *
 obtain ⟨t, ht⟩ : ∃ t, t = M.length := ⟨_, rfl⟩
 rw [← ht] at A2 B2 ⊢
 refine (pright_spec c M2).mono ?_
 rintro r M3 ⟨f3, rfl⟩
 have A3 := A2.keep f3 (by simp)
 have B3 := B2.keep f3 (by simp)
 by_cases hc : rightC c
 ·rw [decide_eq_true hc]
  have Bs := B3.set (.box (pvL (freshP c 1) (.slice none 0 0)))
  have Fs := Fr.set M3 (t + 1) (.box (pvL (freshP c 1) (.slice none 0 0)))
  unfold pvL freshP at Bs Fs
  dsimp only at Bs Fs
  (repeat (first | refine st ?_ | refine σa ?_ | (refine σb ?_; simp (disch := omega) only [push_cast, ↓reduceIte, reduceCtorEq, ν1, ν2, ν3, ν4, ν5, ζ1, ζ2, ζ3, ζ4, ζ5, A3.ld, B3.get, B3.same, List.drop_nil, List.append_nil, Bool.not_true, Bool.not_false, boxE, buildE, lsE])))
  ((first | refine retA.ret (by rfl) ?_ | refine retA.normal (by rfl) ?_); simp (disch := omega) only [push_cast, ↓reduceIte, reduceCtorEq, Nat.reduceAdd, Nat.reduceMul, Nat.reduceLeDiff, Nat.reduceLT, Nat.reduceSub, Int.reduceNe, Int.reduceEq, Int.reduceLE, Int.reduceLT, Int.reduceToNat, Bs.ld, buildE])
  refine ⟨((P2.trans f3).trans Fs).cut (fun c hc hlt => by simp at hc; omega), ?_⟩
  unfold newP; rw [if_pos hc]; rfl
 ·rw [decide_eq_false hc]
  (repeat (first | refine st ?_ | refine σa ?_ | (refine σb ?_; simp (disch := omega) only [push_cast, ↓reduceIte, reduceCtorEq, ν1, ν2, ν3, ν4, ν5, ζ1, ζ2, ζ3, ζ4, ζ5, A3.ld, B3.get, B3.same, List.drop_nil, List.append_nil, Bool.not_true, Bool.not_false, boxE, buildE, lsE])))
  ((first | refine retA.ret (by rfl) ?_ | refine retA.normal (by rfl) ?_); simp (disch := omega) only [push_cast, ↓reduceIte, reduceCtorEq, Nat.reduceAdd, Nat.reduceMul, Nat.reduceLeDiff, Nat.reduceLT, Nat.reduceSub, Int.reduceNe, Int.reduceEq, Int.reduceLE, Int.reduceLT, Int.reduceToNat, B3.ld, buildE])
  refine ⟨(P2.trans f3).cut (fun c hc hlt => by simp at hc), ?_⟩
  unfold newP; rw [if_neg hc]; rfl
def StR (lo : Nat) (M : Mem) (r : Value) (s : ST) : Prop := ∃ vb vo, r = .tuple ⟨[.agg ⟨pvL s.p vb⟩, vo]⟩ ∧ Sl M vb 1 (ints .u8 s.p.buf) ∧ Sl M vo 1 (ints .u8 s.out) ∧ (∀ b ∈ blkOf vb, lo ≤ b) ∧ ∀ b ∈ blkOf vo, lo ≤ b
theorem size_openM (c : CF) : sizeM (openM c) := by simp [sizeM, openM, MV.zero, AV.zero]
theorem good_openM {c : CF} (h1 : u32 c.asn) (h2 : u32 c.id) : goodM (openM c) := ⟨h1, h2, by simp [openM, MV.zero], by simp [openM, MV.zero], by simp [openM, MV.zero, goodAV, AV.zero, u32], by simp [openM, MV.zero]⟩
theorem At.keepL {lo : Nat} {M M' : Mem} {b : Nat} {B : Blk} (h : At M b B) (f : FrL lo M M') (hb : b < lo) : At M' b B := ⟨(f.2 b hb h.lt).trans h.get⟩
theorem pstart_spec (q : PV) (vb : Value) (M : Mem) (hv : Sl M vb 1 (ints .u8 q.buf)) (hl : q.buf.length ≤ 1000000) (u1 : u32 q.conf.asn) (u2 : u32 q.conf.id) : CallA Try.prog 36 [.agg ⟨pvL q vb⟩] M fun r M' => Fr M M' [] ∧ StR M.length M' r (startP q) := by
 have g1 := isSl_cl hv.isSl
 have o1 := isSl_one hv.isSl
 simp only [Value.oneCell'] at o1
 have P2 := Fr.push2 M (.box (pvL q vb)) (.box (pvL (freshP CF.zero 0) (.slice none 0 0)))
 have A2 := (At.push M (.box (pvL q vb))).keep (Fr.push _ (.box (pvL (freshP CF.zero 0) (.slice none 0 0)))) (by simp)
 have B2 := At.push (M ++ [.box (pvL q vb)]) (.box (pvL (freshP CF.zero 0) (.slice none 0 0)))
 rw [List.length_append, List.length_singleton] at B2
 unfold pvL freshP CF.zero at P2 A2 B2
 dsimp only at P2 A2 B2
 unfold pvL
 (refine CallA.of_body Try.func36 rfl (by rfl) ?_; simp only [Try.ntmps36, List.length_cons, List.length_nil, List.replicate, List.cons_append, List.nil_append, Nat.reduceSub, Nat.reduceAdd])
 (repeat (first | refine st ?_ | refine σa ?_ | refine d36_Pe7 ?_ | ((first | refine a36_Pe7 ?_ | refine σb ?_ | refine σc ?_); simp (disch := omega) only [push_cast, ↓reduceIte, reduceCtorEq, ν1, ν2, ν3, ν4, ν5, ζ1, ζ2, ζ3, ζ4, ζ5, mem2E, A2.ld, g1, o1, buildE, lsE])))
 generalize M ++ [Blk.box [.int .u32 q.conf.asn, .int .u32 q.conf.id, .int .i64 q.conf.hold, .int .u32 q.conf.peer, .int .i64 q.state, vb, .int .i64 q.hold, .int .i64 q.heard, .int .i64 q.said, .int .u32 q.id]] ++ [Blk.box [.int .u32 0, .int .u32 0, .int .i64 0, .int .u32 0, .int .i64 0, .slice none 0 0, .int .i64 0, .int .i64 0, .int .i64 0, .int .u32 0]] = M2 at *
 obtain ⟨t, ht⟩ : ∃ t, t = M.length := ⟨_, rfl⟩
 rw [← ht] at A2 B2 ⊢
 refine (pbegin_spec q vb M2 (hv.keep P2 (by simp)) hl).mono ?_
 rintro r M3 ⟨f3, p, rfl, w, vo, ve, ws, h3⟩
 have A3 := A2.keep f3 (by simp)
 have B3 := B2.keep f3 (by simp)
 have l2 := B2.lt
 have hpl := h3.lop
 (repeat (first | refine st ?_ | refine σa ?_ | refine d36_Pe7 ?_ | ((first | refine a36_Pe7 ?_ | refine σb ?_ | refine σc ?_); simp (disch := omega) only [push_cast, ↓reduceIte, reduceCtorEq, ν1, ν2, ν3, ν4, ν5, ζ1, ζ2, ζ3, ζ4, ζ5, A3.ld, buildE, lsE])))
 refine (pright_spec q.conf M3).mono ?_
 rintro r M4 ⟨f4, rfl⟩
 have A4 := A3.keep f4 (by simp)
 have B4 := B3.keep f4 (by simp)
 have h4 := h3.keep f4
 have F4 : FrL M2.length M2 M4 := FrL.of (f3.tr f4) (by simp)
 by_cases hc : rightC q.conf ∧ q.state = 1
 rotate_left
 ·have e : startP q = stepOf q := by unfold startP; rw [if_neg hc]
  rw [e]
  by_cases hr : rightC q.conf
  ·have hs : ¬ q.state = 1 := fun h => hc ⟨hr, h⟩
   have d1 : decide (q.state = 1) = false := decide_eq_false hs
   rw [decide_eq_true hr]
   have bx := h4.box
   unfold acL at bx
   have lb := h4.buf
   have q1 := isSl_cl lb.isSl
   have q2 := isSl_one lb.isSl
   have q3 := isSl_cl h4.out.sl.isSl
   simp only [Value.oneCell'] at q2
   have Fs := Fr.set M4 (t + 1) (.box (pvL (stepOf q).p w))
   have Bs := B4.set (.box (pvL (stepOf q).p w))
   have hpt : t + 1 ≠ p := by omega
   have sb := lb.keep Fs (fun b hb hx => by have := (h4.lob b hb).1; simp at hx; omega)
   have so := h4.out.sl.keep Fs (fun b hb hx => by have := (h4.loo b hb).1; simp at hx; omega)
   unfold pvL at Fs Bs
   dsimp only [stepOf, freshP, sayP] at Fs Bs bx
   (repeat (first | refine st ?_ | refine σa ?_ | refine d36_Pe7 ?_ | ((first | refine a36_Pe7 ?_ | refine σb ?_ | refine σc ?_); simp (disch := omega) only [push_cast, ↓reduceIte, reduceCtorEq, ν1, ν2, ν3, ν4, ν5, ζ1, ζ2, ζ3, ζ4, ζ5, A4.ld, d1, bx.ld, ld_ne, B4.get, B4.same, q1, q2, q3, List.drop_nil, List.append_nil, Bool.not_true, Bool.not_false, boxE, buildE, lsE])))
   ((first | refine retA.ret (by rfl) ?_ | refine retA.normal (by rfl) ?_); simp (disch := omega) only [push_cast, ↓reduceIte, reduceCtorEq, Nat.reduceAdd, Nat.reduceMul, Nat.reduceLeDiff, Nat.reduceLT, Nat.reduceSub, Int.reduceNe, Int.reduceEq, Int.reduceLE, Int.reduceLT, Int.reduceToNat, Bs.ld, q1, q2, q3, buildE])
   refine ⟨((P2.trans (F4.fr (Nat.le_refl _))).trans Fs).cut (fun c hc hlt => by simp at hc; omega), w, vo, rfl, sb, so, fun b hb => by have := (h4.lob b hb).1; omega, fun b hb => by have := (h4.loo b hb).1; omega⟩
  ·rw [decide_eq_false hr]
   have bx := h4.box
   unfold acL at bx
   have lb := h4.buf
   have q1 := isSl_cl lb.isSl
   have q2 := isSl_one lb.isSl
   have q3 := isSl_cl h4.out.sl.isSl
   simp only [Value.oneCell'] at q2
   have Fs := Fr.set M4 (t + 1) (.box (pvL (stepOf q).p w))
   have Bs := B4.set (.box (pvL (stepOf q).p w))
   have hpt : t + 1 ≠ p := by omega
   have sb := lb.keep Fs (fun b hb hx => by have := (h4.lob b hb).1; simp at hx; omega)
   have so := h4.out.sl.keep Fs (fun b hb hx => by have := (h4.loo b hb).1; simp at hx; omega)
   unfold pvL at Fs Bs
   dsimp only [stepOf, freshP, sayP] at Fs Bs bx
   (repeat (first | refine st ?_ | refine σa ?_ | refine d36_Pe7 ?_ | ((first | refine a36_Pe7 ?_ | refine σb ?_ | refine σc ?_); simp (disch := omega) only [push_cast, ↓reduceIte, reduceCtorEq, ν1, ν2, ν3, ν4, ν5, ζ1, ζ2, ζ3, ζ4, ζ5, A4.ld, bx.ld, ld_ne, B4.get, B4.same, q1, q2, q3, List.drop_nil, List.append_nil, Bool.not_true, Bool.not_false, boxE, buildE, lsE])))
   ((first | refine retA.ret (by rfl) ?_ | refine retA.normal (by rfl) ?_); simp (disch := omega) only [push_cast, ↓reduceIte, reduceCtorEq, Nat.reduceAdd, Nat.reduceMul, Nat.reduceLeDiff, Nat.reduceLT, Nat.reduceSub, Int.reduceNe, Int.reduceEq, Int.reduceLE, Int.reduceLT, Int.reduceToNat, Bs.ld, q1, q2, q3, buildE])
   refine ⟨((P2.trans (F4.fr (Nat.le_refl _))).trans Fs).cut (fun c hc hlt => by simp at hc; omega), w, vo, rfl, sb, so, fun b hb => by have := (h4.lob b hb).1; omega, fun b hb => by have := (h4.loo b hb).1; omega⟩
 obtain ⟨hr, hs⟩ := hc
 have e : startP q = sayP (stepOf (freshP q.conf 2)) (openM q.conf) := by unfold startP; rw [if_pos ⟨hr, hs⟩]
 rw [e, decide_eq_true hr]
 have d1 : decide (q.state = 1) = true := decide_eq_true hs
 obtain ⟨h5, F5⟩ := h4.setP (freshP q.conf 2) (vb' := .slice none 0 0) (Sl.nil _ (by omega)) (by simp [blkOf])
 have b4 := h4.box
 unfold acL at b4 h5 F5
 dsimp only [stepOf, freshP] at b4 h5 F5
 have so4 := h4.out.sl.isSl
 have k1 := isSl_cl so4
 have k2 := isSl_one so4
 have se4 := h4.evs.sl.isSl
 have k3 := isSl_cl se4
 have k4 := isSl_one se4
 simp only [Value.oneCell'] at k2 k4
 (repeat (first | refine st ?_ | refine σa ?_ | refine d36_Pe7 ?_ | ((first | refine a36_Pe7 ?_ | refine σb ?_ | refine σc ?_); simp (disch := omega) only [push_cast, ↓reduceIte, reduceCtorEq, ν1, ν2, ν3, ν4, ν5, ζ1, ζ2, ζ3, ζ4, ζ5, A4.ld, d1, b4.get, b4.same, k1, k2, k3, k4, ld_ne, List.drop_nil, List.append_nil, Bool.not_true, Bool.not_false, boxE, buildE, lsE])))
 refine (psay_spec M2.length p _ (.slice none 0 0) vo ve ws (openM q.conf) (.slice none 0 0) (.slice none 0 0) (.slice none 0 0) (.slice none 0 0) (.slice none 0 0) _ h5 (MVin.nils _ ⟨rfl, rfl, rfl, rfl, rfl⟩) (good_openM u1 u2) (size_openM _) (by show 0 ≤ 10000000; omega) (by rw [List.length_set]; exact F4.1)).mono ?_
 rintro r M6 ⟨rfl, F6, w6, vo6, ve6, ws6, h6⟩
 have FF := (F4.trans F5).trans F6
 have B6 := (B4.keepL F5 (by omega)).keepL F6 (by omega)
 have bx := h6.box
 unfold acL at bx
 have lb := h6.buf
 have q1 := isSl_cl lb.isSl
 have q2 := isSl_one lb.isSl
 have q3 := isSl_cl h6.out.sl.isSl
 simp only [Value.oneCell'] at q2
 have Fs := Fr.set M6 (t + 1) (.box (pvL (sayP (stepOf (freshP q.conf 2)) (openM q.conf)).p w6))
 have Bs := B6.set (.box (pvL (sayP (stepOf (freshP q.conf 2)) (openM q.conf)).p w6))
 have hpt : t + 1 ≠ p := by omega
 have sb := lb.keep Fs (fun b hb hx => by have := (h6.lob b hb).1; simp at hx; omega)
 have so := h6.out.sl.keep Fs (fun b hb hx => by have := (h6.loo b hb).1; simp at hx; omega)
 unfold pvL at Fs Bs
 dsimp only [stepOf, freshP, sayP] at Fs Bs bx
 (repeat (first | refine st ?_ | refine σa ?_ | refine d36_Pe7 ?_ | ((first | refine a36_Pe7 ?_ | refine σb ?_ | refine σc ?_); simp (disch := omega) only [push_cast, ↓reduceIte, reduceCtorEq, ν1, ν2, ν3, ν4, ν5, ζ1, ζ2, ζ3, ζ4, ζ5, bx.ld, ld_ne, B6.get, B6.same, q1, q2, q3, List.drop_nil, List.append_nil, Bool.not_true, Bool.not_false, boxE, buildE, lsE])))
 ((first | refine retA.ret (by rfl) ?_ | refine retA.normal (by rfl) ?_); simp (disch := omega) only [push_cast, ↓reduceIte, reduceCtorEq, Nat.reduceAdd, Nat.reduceMul, Nat.reduceLeDiff, Nat.reduceLT, Nat.reduceSub, Int.reduceNe, Int.reduceEq, Int.reduceLE, Int.reduceLT, Int.reduceToNat, Bs.ld, q1, q2, q3, buildE])
 refine ⟨((P2.trans (FF.fr (Nat.le_refl _))).trans Fs).cut (fun c hc hlt => by simp at hc; omega), w6, vo6, rfl, sb, so, fun b hb => by have := (h6.lob b hb).1; omega, fun b hb => by have := (h6.loo b hb).1; omega⟩
end Go.Proofs.Ytbdejnnbpdgjlaa.Ax
