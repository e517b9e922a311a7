/- Contracts of functions over the abstract machine. No conditions: lemmas alone. -/
import Derived.Test.YtbdejnnbpdgjlaaPfxKLibD
import Derived.Test.YtbdejnnbpdgjlaaPfxKP0
import Derived.Test.YtbdejnnbpdgjlaaPfxKP10
import Derived.Test.YtbdejnnbpdgjlaaPfxKP11
import Derived.Test.YtbdejnnbpdgjlaaPfxKP12
namespace Go.Proofs.Ytbdejnnbpdgjlaa.Ax
open Go Go.RowKit
open Nat renaming reduceAdd → ν1, reduceMul → ν2, reduceLeDiff → ν3, reduceLT → ν4, reduceSub → ν5
open Int renaming reduceNe → ζ1, reduceEq → ζ2, reduceLE → ζ3, reduceLT → ζ4, reduceToNat → ζ5
set_option linter.unusedVariables false
set_option linter.unusedSimpArgs false
set_option maxRecDepth 100000
set_option maxHeartbeats 20000000
attribute [local irreducible] thenA blockA scopeA retA AL AW AD ADL AH clrK CallA apure aload bload appK ptrK fnK ares szOk planOk okOps
theorem d13_Kpf {g n : Prop} (k : n) (h : n → g := by first | exact AW.dr (id := 9) (by rfl) [0, 1, 2, 3, 4, 5, 6, 7, 8, 9, 10] (by kernel_rfl) (by kernel_rfl)) : g := h k
theorem d3_Kpf {g n : Prop} (k : n) (h : n → g := by first | exact AW.dr (id := 12) (by rfl) [0, 1, 2, 3, 4, 5, 6, 7, 8] (by kernel_rfl) (by kernel_rfl)) : g := h k
theorem d4_Kpf {g n : Prop} (k : n) (h : n → g := by first | exact AW.dr (id := 14) (by rfl) [0, 1, 2, 3, 5, 6, 4, 7, 8, 9, 10] (by kernel_rfl) (by kernel_rfl)) : g := h k
def toRG (ns : List Int) : RG := ⟨(ns.headD 0, ns.tail.headD 0), ns.tail.tail.headD 0, ns.tail.tail.tail.headD 0⟩
theorem zip_rgs (xs : List (List Int)) : xs.flatMap (zipI [.u32, .i64, .i64, .i64]) = rgs (xs.map toRG) := by
 induction xs with
 | nil => rfl
 | cons x xs ih => rw [List.flatMap_cons, ih]; rfl
theorem rgs_in {M : Mem} {v : Value} (h : In22 M v) : ∃ l : List RG, Sl M v 4 (rgs l) ∧ ∀ r ∈ l, goodR r := by
 obtain ⟨w, xs, e, hg, -, hs⟩ := h
 cases e
 rw [zip_rgs] at hs
 refine ⟨xs.map toRG, hs, fun r hr => ?_⟩
 obtain ⟨x, hx, rfl⟩ := List.mem_map.1 hr
 have := (hg x hx).1
 exact wf_u32 this
theorem px_in {M : Mem} {v : Value} (h : In32 M v) : ∃ p : PX, v = .agg ⟨[.int .u32 p.1, .int .i64 p.2]⟩ ∧ 0 ≤ p.1 ∧ p.1 ≤ 4294967295 := by
 obtain ⟨acs, rfl, _, _, rfl, ⟨a, ha, rfl⟩, _, _, rfl, ⟨n, hn, rfl⟩, rfl⟩ := h
 exact ⟨(a, n), rfl, wf_u32 ha⟩
theorem kinds_all (v : Value) (l : List RG) (M : Mem) (hv : Sl M v 4 (rgs l)) (hg : ∀ r ∈ l, goodR r) :
  CallA Try.prog 13 [v] M fun r M' => Fr M M' [] ∧ ∃ w, r = .tuple ⟨[w, .int .i64 (if l.length ≤ 64 then 0 else 6)]⟩ ∧ Sl M' w 2 (pxs (if l.length ≤ 64 then kindsP l (uniq (begs l)) else [])) ∧ (if l.length ≤ 64 then kindsP l (uniq (begs l)) else []).length ≤ 10000 := by
 by_cases c : l.length ≤ 64
 ·refine (kinds_spec v l M hv hg c).mono ?_
  rintro r M' ⟨F, w, ys, rfl, N, hlen, hr, hm⟩
  rw [if_pos c, if_pos c, ← kinds_rise l hr (riseS_of (uniq_rise (begs l))) (fun x => (hm x).trans uniq_mem.symm)]
  exact ⟨F, w, rfl, N.sl, hlen⟩
 ·have s0 := hv.isSl
  have n0 := hv.lnR
  have d64 : decide ((l.length : Int) > 64) = true := decide_eq_true (by omega)
  rw [if_neg c, if_neg c]
  (refine CallA.of_body Try.func13 rfl (by rfl) ?_; simp only [Try.ntmps13, List.length_cons, List.length_nil, List.replicate, List.cons_append, List.nil_append, Nat.reduceSub, Nat.reduceAdd])
  (repeat (first | refine st ?_ | refine σa ?_ | refine d13_Kpf ?_ | ((first | refine σb ?_ | refine σc ?_); simp (disch := omega) only [push_cast, ↓reduceIte, reduceCtorEq, ν1, ν2, ν3, ν4, ν5, ζ1, ζ2, ζ3, ζ4, ζ5, s0, n0, d64, lsE])))
  ((first | refine retA.ret (by rfl) ?_ | refine retA.normal (by rfl) ?_); simp (disch := omega) only [push_cast, ↓reduceIte, reduceCtorEq, Nat.reduceAdd, Nat.reduceMul, Nat.reduceLeDiff, Nat.reduceLT, Nat.reduceSub, Int.reduceNe, Int.reduceEq, Int.reduceLE, Int.reduceLT, Int.reduceToNat])
  first | exact ⟨Fr.refl _, Sl.nil _ (by omega)⟩ | exact ⟨Fr.refl _, _, rfl, Sl.nil _ (by omega)⟩
theorem rkinds_all (v : Value) (l : List RG) (M : Mem) (hv : Sl M v 4 (rgs l)) (hg : ∀ r ∈ l, goodR r) :
  CallA Try.prog 14 [v] M fun r M' => Fr M M' [] ∧ ∃ w, r = .tuple ⟨[w, .int .i64 (if l.length ≤ 64 then 0 else 6)]⟩ ∧ Sl M' w 2 (pxs (if l.length ≤ 64 then kindsP l (uniq (begs l)) else [])) := by
 by_cases c : l.length ≤ 64
 ·refine (rkinds_spec v l M hv hg c).mono ?_
  rintro r M' ⟨F, w, rfl, N⟩
  rw [if_pos c, if_pos c]
  exact ⟨F, w, rfl, N.sl⟩
 ·have s0 := hv.isSl
  have n0 := hv.lnR
  have d64 : decide ((l.length : Int) > 64) = true := decide_eq_true (by omega)
  rw [if_neg c, if_neg c]
  (refine CallA.of_body Try.func14 rfl (by rfl) ?_; simp only [Try.ntmps14, List.length_cons, List.length_nil, List.replicate, List.cons_append, List.nil_append, Nat.reduceSub, Nat.reduceAdd])
  (repeat (first | refine st ?_ | refine σa ?_ | (refine σb ?_; simp (disch := omega) only [push_cast, ↓reduceIte, reduceCtorEq, ν1, ν2, ν3, ν4, ν5, ζ1, ζ2, ζ3, ζ4, ζ5, s0, n0, d64, lsE])))
  ((first | refine retA.ret (by rfl) ?_ | refine retA.normal (by rfl) ?_); simp (disch := omega) only [push_cast, ↓reduceIte, reduceCtorEq, Nat.reduceAdd, Nat.reduceMul, Nat.reduceLeDiff, Nat.reduceLT, Nat.reduceSub, Int.reduceNe, Int.reduceEq, Int.reduceLE, Int.reduceLT, Int.reduceToNat])
  exact ⟨Fr.refl _, _, rfl, Sl.nil _ (by omega)⟩
theorem pfxKinds_in (M : Mem) (v0 : Value) (h0 : In22 M v0) : CallA Try.prog 3 [v0] M fun r _ => r = .bool true := by
 obtain ⟨l, hv, hg⟩ := rgs_in h0
 (refine CallA.of_body Try.func3 rfl (by rfl) ?_; simp only [Try.ntmps3, List.length_cons, List.length_nil, List.replicate, List.cons_append, List.nil_append, Nat.reduceSub, Nat.reduceAdd])
 (repeat (first | refine st ?_ | refine σa ?_ | refine d3_Kpf ?_ | ((first | refine σb ?_ | refine σc ?_); simp (disch := omega) only [push_cast, ↓reduceIte, reduceCtorEq, ν1, ν2, ν3, ν4, ν5, ζ1, ζ2, ζ3, ζ4, ζ5, lsE])))
 refine (alive04_spec M).mono ?_
 rintro r M1 ⟨F1, rfl⟩
 have hv1 := hv.keep F1 (by simp)
 have s0 := hv1.isSl
 have n0 := hv1.lnR
 by_cases cA : l.length > 10 ∧ l.length ≤ 64
 ·have d1 : decide ((l.length : Int) > 10) = true := decide_eq_true (by omega)
  have d2 : decide ((l.length : Int) ≤ 64) = true := decide_eq_true (by omega)
  (repeat (first | refine st ?_ | refine σa ?_ | refine d3_Kpf ?_ | ((first | refine σb ?_ | refine σc ?_); simp (disch := omega) only [push_cast, ↓reduceIte, reduceCtorEq, ν1, ν2, ν3, ν4, ν5, ζ1, ζ2, ζ3, ζ4, ζ5, s0, n0, d1, d2, Bool.not_true, lsE])))
  ((first | refine retA.ret (by rfl) ?_ | refine retA.normal (by rfl) ?_); simp (disch := omega) only [push_cast, ↓reduceIte, reduceCtorEq, Nat.reduceAdd, Nat.reduceMul, Nat.reduceLeDiff, Nat.reduceLT, Nat.reduceSub, Int.reduceNe, Int.reduceEq, Int.reduceLE, Int.reduceLT, Int.reduceToNat])
 obtain ⟨b1, d1⟩ : ∃ b1, decide ((l.length : Int) > 10) = b1 := ⟨_, rfl⟩
 have d2 : b1 = true → decide ((l.length : Int) ≤ 64) = false := fun h => decide_eq_false (by rw [h] at d1; have := of_decide_eq_true d1; omega)
 cases b1
 case true =>
  have d2 := d2 rfl
  (repeat (first | refine st ?_ | refine σa ?_ | refine d3_Kpf ?_ | ((first | refine σb ?_ | refine σc ?_); simp (disch := omega) only [push_cast, ↓reduceIte, reduceCtorEq, ν1, ν2, ν3, ν4, ν5, ζ1, ζ2, ζ3, ζ4, ζ5, s0, n0, d1, d2, Bool.not_true, lsE])))
  refine (kinds_all v0 l M1 hv1 hg).mono ?_
  rintro r M2 ⟨F2, w, rfl, W2, lout⟩
  (repeat (first | refine st ?_ | refine σa ?_ | refine d3_Kpf ?_ | ((first | refine σb ?_ | refine σc ?_); simp (disch := omega) only [push_cast, ↓reduceIte, reduceCtorEq, ν1, ν2, ν3, ν4, ν5, ζ1, ζ2, ζ3, ζ4, ζ5, buildE, lsE])))
  refine (rkinds_all v0 l M2 (hv1.keep F2 (by simp)) hg).mono ?_
  rintro r M3 ⟨F3, u, rfl, U3⟩
  obtain ⟨e, he⟩ : ∃ e : Int, e = if l.length ≤ 64 then 0 else 6 := ⟨_, rfl⟩
  obtain ⟨out, ho⟩ : ∃ out : List PX, out = if l.length ≤ 64 then kindsP l (uniq (begs l)) else [] := ⟨_, rfl⟩
  rw [← ho] at W2 U3 lout
  rw [← he]
  have W3 := W2.keep F3 (by simp)
  have sw := W3.isSl
  have nw := W3.lnX
  have su := U3.isSl
  have nu := U3.lnX
  have de : decide (e = e) = true := decide_eq_true rfl
  have dn : decide ((out.length : Int) = (out.length : Int)) = true := decide_eq_true rfl
  (repeat (first | refine st ?_ | refine σa ?_ | refine d3_Kpf ?_ | ((first | refine σb ?_ | refine σc ?_); simp (disch := omega) only [push_cast, ↓reduceIte, reduceCtorEq, ν1, ν2, ν3, ν4, ν5, ζ1, ζ2, ζ3, ζ4, ζ5, de, dn, sw, nw, su, nu, Bool.not_true, Bool.not_false, buildE, lsE])))
  refine AW.loopF [2, 7, 40, 41, 42, 43, 44, 45, 46, 47, 48, 49, 50, 51, 52] (fun m g M' => ∃ i : Nat, g 40 = .int .i64 i ∧ i + m = out.length ∧ M' = M3) out.length ?_ ?_
  ·exact ⟨0, rfl, by omega, rfl⟩
  rintro m g M4 ⟨i, h40, hi, rfl⟩
  simp (disch := omega) only [push_cast, ↓reduceIte, reduceCtorEq, Nat.reduceAdd, Nat.reduceMul, Nat.reduceLeDiff, Nat.reduceLT, Nat.reduceSub, Int.reduceNe, Int.reduceEq, Int.reduceLE, Int.reduceLT, Int.reduceToNat, h40]
  by_cases ci : i < out.length
  rotate_left
  ·have d : decide ((i : Int) < (out.length : Int)) = false := decide_eq_false (by omega)
   (repeat (first | refine st ?_ | refine σa ?_ | refine d3_Kpf ?_ | ((first | refine σb ?_ | refine σc ?_); simp (disch := omega) only [push_cast, ↓reduceIte, reduceCtorEq, ν1, ν2, ν3, ν4, ν5, ζ1, ζ2, ζ3, ζ4, ζ5, d, lsE])))
   ((first | refine retA.ret (by rfl) ?_ | refine retA.normal (by rfl) ?_); simp (disch := omega) only [push_cast, ↓reduceIte, reduceCtorEq, Nat.reduceAdd, Nat.reduceMul, Nat.reduceLeDiff, Nat.reduceLT, Nat.reduceSub, Int.reduceNe, Int.reduceEq, Int.reduceLE, Int.reduceLT, Int.reduceToNat])
  have d : decide ((i : Int) < (out.length : Int)) = true := decide_eq_true (by omega)
  have eti : ((i : Nat) : Int).toNat = i := Int.toNat_natCast i
  have lj : (i : Int) < (out.length : Int) := by omega
  have l0 : (0 : Int) ≤ (i : Int) := by omega
  have ldw := W3.ldX ci
  have ldu := U3.ldX ci
  have pe := px_eq (out.getD i (0, 0)) (out.getD i (0, 0))
  have dp : decide (out.getD i (0, 0) = out.getD i (0, 0)) = true := decide_eq_true rfl
  have wi : IntKind.i64.wrap ((i : Int) + 1) = ((i + 1 : Nat) : Int) := by rw [w_i64 (by omega) (by omega)]; rfl
  (repeat (first | refine st ?_ | refine σa ?_ | refine d3_Kpf ?_ | ((first | refine σb ?_ | refine σc ?_); simp (disch := omega) only [push_cast, ↓reduceIte, reduceCtorEq, ν1, ν2, ν3, ν4, ν5, ζ1, ζ2, ζ3, ζ4, ζ5, d, sw, nw, su, nu, eti, lj, l0, ldw, ldu, pe, dp, aggB, Bool.not_true, buildE, lsE])))
  refine ⟨rfl, m - 1, by omega, i + 1, ?_, by omega, rfl⟩
  show Value.int .i64 (IntKind.i64.wrap ((i : Int) + 1)) = _
  rw [wi]
 case false =>
  clear d2
  (repeat (first | refine st ?_ | refine σa ?_ | refine d3_Kpf ?_ | ((first | refine σb ?_ | refine σc ?_); simp (disch := omega) only [push_cast, ↓reduceIte, reduceCtorEq, ν1, ν2, ν3, ν4, ν5, ζ1, ζ2, ζ3, ζ4, ζ5, s0, n0, d1, Bool.not_true, lsE])))
  refine (kinds_all v0 l M1 hv1 hg).mono ?_
  rintro r M2 ⟨F2, w, rfl, W2, lout⟩
  (repeat (first | refine st ?_ | refine σa ?_ | refine d3_Kpf ?_ | ((first | refine σb ?_ | refine σc ?_); simp (disch := omega) only [push_cast, ↓reduceIte, reduceCtorEq, ν1, ν2, ν3, ν4, ν5, ζ1, ζ2, ζ3, ζ4, ζ5, buildE, lsE])))
  refine (rkinds_all v0 l M2 (hv1.keep F2 (by simp)) hg).mono ?_
  rintro r M3 ⟨F3, u, rfl, U3⟩
  obtain ⟨e, he⟩ : ∃ e : Int, e = if l.length ≤ 64 then 0 else 6 := ⟨_, rfl⟩
  obtain ⟨out, ho⟩ : ∃ out : List PX, out = if l.length ≤ 64 then kindsP l (uniq (begs l)) else [] := ⟨_, rfl⟩
  rw [← ho] at W2 U3 lout
  rw [← he]
  have W3 := W2.keep F3 (by simp)
  have sw := W3.isSl
  have nw := W3.lnX
  have su := U3.isSl
  have nu := U3.lnX
  have de : decide (e = e) = true := decide_eq_true rfl
  have dn : decide ((out.length : Int) = (out.length : Int)) = true := decide_eq_true rfl
  (repeat (first | refine st ?_ | refine σa ?_ | refine d3_Kpf ?_ | ((first | refine σb ?_ | refine σc ?_); simp (disch := omega) only [push_cast, ↓reduceIte, reduceCtorEq, ν1, ν2, ν3, ν4, ν5, ζ1, ζ2, ζ3, ζ4, ζ5, de, dn, sw, nw, su, nu, Bool.not_true, Bool.not_false, buildE, lsE])))
  refine AW.loopF [2, 7, 40, 41, 42, 43, 44, 45, 46, 47, 48, 49, 50, 51, 52] (fun m g M' => ∃ i : Nat, g 40 = .int .i64 i ∧ i + m = out.length ∧ M' = M3) out.length ?_ ?_
  ·exact ⟨0, rfl, by omega, rfl⟩
  rintro m g M4 ⟨i, h40, hi, rfl⟩
  simp (disch := omega) only [push_cast, ↓reduceIte, reduceCtorEq, Nat.reduceAdd, Nat.reduceMul, Nat.reduceLeDiff, Nat.reduceLT, Nat.reduceSub, Int.reduceNe, Int.reduceEq, Int.reduceLE, Int.reduceLT, Int.reduceToNat, h40]
  by_cases ci : i < out.length
  rotate_left
  ·have d : decide ((i : Int) < (out.length : Int)) = false := decide_eq_false (by omega)
   (repeat (first | refine st ?_ | refine σa ?_ | refine d3_Kpf ?_ | ((first | refine σb ?_ | refine σc ?_); simp (disch := omega) only [push_cast, ↓reduceIte, reduceCtorEq, ν1, ν2, ν3, ν4, ν5, ζ1, ζ2, ζ3, ζ4, ζ5, d, lsE])))
   ((first | refine retA.ret (by rfl) ?_ | refine retA.normal (by rfl) ?_); simp (disch := omega) only [push_cast, ↓reduceIte, reduceCtorEq, Nat.reduceAdd, Nat.reduceMul, Nat.reduceLeDiff, Nat.reduceLT, Nat.reduceSub, Int.reduceNe, Int.reduceEq, Int.reduceLE, Int.reduceLT, Int.reduceToNat])
  have d : decide ((i : Int) < (out.length : Int)) = true := decide_eq_true (by omega)
  have eti : ((i : Nat) : Int).toNat = i := Int.toNat_natCast i
  have lj : (i : Int) < (out.length : Int) := by omega
  have l0 : (0 : Int) ≤ (i : Int) := by omega
  have ldw := W3.ldX ci
  have ldu := U3.ldX ci
  have pe := px_eq (out.getD i (0, 0)) (out.getD i (0, 0))
  have dp : decide (out.getD i (0, 0) = out.getD i (0, 0)) = true := decide_eq_true rfl
  have wi : IntKind.i64.wrap ((i : Int) + 1) = ((i + 1 : Nat) : Int) := by rw [w_i64 (by omega) (by omega)]; rfl
  (repeat (first | refine st ?_ | refine σa ?_ | refine d3_Kpf ?_ | ((first | refine σb ?_ | refine σc ?_); simp (disch := omega) only [push_cast, ↓reduceIte, reduceCtorEq, ν1, ν2, ν3, ν4, ν5, ζ1, ζ2, ζ3, ζ4, ζ5, d, sw, nw, su, nu, eti, lj, l0, ldw, ldu, pe, dp, aggB, Bool.not_true, buildE, lsE])))
  refine ⟨rfl, m - 1, by omega, i + 1, ?_, by omega, rfl⟩
  show Value.int .i64 (IntKind.i64.wrap ((i : Int) + 1)) = _
  rw [wi]
def cntK (l : List RG) (p : PX) (K : List PX) (i : Nat) : Nat := ((K.take i).filter fun q => decide (kindR l q = kindR l p)).length
theorem cntK_succ {l : List RG} {p q : PX} {K : List PX} {i : Nat} (h : K[i]? = some q) : cntK l p K (i + 1) = cntK l p K i + (if kindR l q = kindR l p then 1 else 0) := by
 unfold cntK
 rw [List.take_add_one, h, Option.toList_some, List.filter_append, List.length_append]
 by_cases c : kindR l q = kindR l p
 ·simp [c]
 ·simp [c]
theorem pfxOne_in (M : Mem) (v0 v1 : Value) (h0 : In22 M v0) (h1 : In32 M v1) : CallA Try.prog 4 [v0, v1] M fun r _ => r = .bool true := by
 obtain ⟨l, hv, hg⟩ := rgs_in h0
 obtain ⟨p, rfl, gp⟩ := px_in h1
 have P0 := Fr.push M (.box [.int .u32 p.1, .int .i64 p.2])
 have A0 := At.push M (.box [.int .u32 p.1, .int .i64 p.2])
 (refine CallA.of_body Try.func4 rfl (by rfl) ?_; simp only [Try.ntmps4, List.length_cons, List.length_nil, List.replicate, List.cons_append, List.nil_append, Nat.reduceSub, Nat.reduceAdd])
 (repeat (first | refine st ?_ | refine σa ?_ | refine d4_Kpf ?_ | ((first | refine σb ?_ | refine σc ?_); simp (disch := omega) only [push_cast, ↓reduceIte, reduceCtorEq, ν1, ν2, ν3, ν4, ν5, ζ1, ζ2, ζ3, ζ4, ζ5, memE, boxE, buildE, lsE])))
 obtain ⟨pb, hpb⟩ : ∃ pb, pb = M.length := ⟨_, rfl⟩
 rw [← hpb] at A0 ⊢
 have hv00 := hv.keep P0 (by simp)
 generalize M ++ [Blk.box [.int .u32 p.1, .int .i64 p.2]] = M0 at *
 refine (alive04_spec M0).mono ?_
 rintro r M1 ⟨F1, rfl⟩
 have hv1 := hv00.keep F1 (by simp)
 have A1 := A0.keep F1 (by simp)
 have s0 := hv1.isSl
 have n0 := hv1.lnR
 by_cases c10 : l.length > 10
 ·have d1 : decide ((l.length : Int) > 10) = true := decide_eq_true (by omega)
  (repeat (first | refine st ?_ | refine σa ?_ | refine d4_Kpf ?_ | ((first | refine σb ?_ | refine σc ?_); simp (disch := omega) only [push_cast, ↓reduceIte, reduceCtorEq, ν1, ν2, ν3, ν4, ν5, ζ1, ζ2, ζ3, ζ4, ζ5, s0, n0, d1, Bool.not_true, lsE])))
  ((first | refine retA.ret (by rfl) ?_ | refine retA.normal (by rfl) ?_); simp (disch := omega) only [push_cast, ↓reduceIte, reduceCtorEq, Nat.reduceAdd, Nat.reduceMul, Nat.reduceLeDiff, Nat.reduceLT, Nat.reduceSub, Int.reduceNe, Int.reduceEq, Int.reduceLE, Int.reduceLT, Int.reduceToNat])
 have d1 : decide ((l.length : Int) > 10) = false := decide_eq_false (by omega)
 (repeat (first | refine st ?_ | refine σa ?_ | refine d4_Kpf ?_ | ((first | refine σb ?_ | refine σc ?_); simp (disch := omega) only [push_cast, ↓reduceIte, reduceCtorEq, ν1, ν2, ν3, ν4, ν5, ζ1, ζ2, ζ3, ζ4, ζ5, s0, n0, d1, A1.ld, Bool.not_true, buildE, lsE])))
 refine (grright_spec p M1 gp).mono ?_
 rintro r M2 ⟨F2, rfl⟩
 by_cases rp : rightX p
 rotate_left
 ·rw [decide_eq_false rp]
  (repeat (first | refine st ?_ | refine σa ?_ | refine d4_Kpf ?_ | ((first | refine σb ?_ | refine σc ?_); simp (disch := omega) only [push_cast, ↓reduceIte, reduceCtorEq, ν1, ν2, ν3, ν4, ν5, ζ1, ζ2, ζ3, ζ4, ζ5, Bool.not_false, lsE])))
  ((first | refine retA.ret (by rfl) ?_ | refine retA.normal (by rfl) ?_); simp (disch := omega) only [push_cast, ↓reduceIte, reduceCtorEq, Nat.reduceAdd, Nat.reduceMul, Nat.reduceLeDiff, Nat.reduceLT, Nat.reduceSub, Int.reduceNe, Int.reduceEq, Int.reduceLE, Int.reduceLT, Int.reduceToNat])
 rw [decide_eq_true rp]
 have hv2 := hv1.keep F2 (by simp)
 have A2 := A1.keep F2 (by simp)
 (repeat (first | refine st ?_ | refine σa ?_ | refine d4_Kpf ?_ | ((first | refine σb ?_ | refine σc ?_); simp (disch := omega) only [push_cast, ↓reduceIte, reduceCtorEq, ν1, ν2, ν3, ν4, ν5, ζ1, ζ2, ζ3, ζ4, ζ5, Bool.not_true, lsE])))
 refine (kinds_spec v0 l M2 hv2 hg (by omega)).mono ?_
 rintro r M3 ⟨F3, w, ys, rfl, N3, lK, hrise, hmem⟩
 obtain ⟨hone, hright, hle⟩ := kinds_one hrise hmem rp gp.1 gp.2
 have gK := kindsP_good (l := l) (fun y hy => begs_good hg y ((hmem y).1 hy))
 generalize kindsP l ys = K at *
 have hv3 := hv2.keep F3 (by simp)
 have A3 := A2.keep F3 (by simp)
 have sw := N3.sl.isSl
 have nw := N3.sl.lnX
 (repeat (first | refine st ?_ | refine σa ?_ | refine d4_Kpf ?_ | ((first | refine σb ?_ | refine σc ?_); simp (disch := omega) only [push_cast, ↓reduceIte, reduceCtorEq, ν1, ν2, ν3, ν4, ν5, ζ1, ζ2, ζ3, ζ4, ζ5, sw, nw, buildE, lsE])))
 refine AW.loopF [4, 7, 9, 10, 12, 30, 31, 32, 33, 34, 35, 36, 37, 38, 39, 40, 41, 42, 43, 44, 45, 46, 47, 48, 49, 50, 51, 52, 53, 54, 55, 56, 57, 58, 59, 60, 61, 62, 63, 64, 65, 66, 67, 68, 69, 70, 71, 72, 73, 74, 75] (fun m g M' => ∃ i : Nat, g 30 = .int .i64 i ∧ i + m = K.length ∧ Fr M3 M' [] ∧ g 7 = .int .i64 (cntK l p K i : Nat)) K.length ?_ ?_
 ·exact ⟨0, rfl, by omega, Fr.refl _, rfl⟩
 rintro m g M4 ⟨i, h30, hi, F4, h7⟩
 simp (disch := omega) only [push_cast, ↓reduceIte, reduceCtorEq, Nat.reduceAdd, Nat.reduceMul, Nat.reduceLeDiff, Nat.reduceLT, Nat.reduceSub, Int.reduceNe, Int.reduceEq, Int.reduceLE, Int.reduceLT, Int.reduceToNat, h30, h7]
 have lc : cntK l p K i ≤ i := by unfold cntK; exact Nat.le_trans (List.length_filter_le _ _) (by rw [List.length_take]; omega)
 by_cases ci : i < K.length
 rotate_left
 ·have d : decide ((i : Int) < (K.length : Int)) = false := decide_eq_false (by omega)
  obtain rfl : i = K.length := by omega
  have e1 : cntK l p K K.length = 1 := by unfold cntK; rw [List.take_length]; exact hone
  rw [e1]
  (repeat (first | refine st ?_ | refine σa ?_ | refine d4_Kpf ?_ | ((first | refine σb ?_ | refine σc ?_); simp (disch := omega) only [push_cast, ↓reduceIte, reduceCtorEq, ν1, ν2, ν3, ν4, ν5, ζ1, ζ2, ζ3, ζ4, ζ5, d, lsE])))
  ((first | refine retA.ret (by rfl) ?_ | refine retA.normal (by rfl) ?_); simp (disch := omega) only [push_cast, ↓reduceIte, reduceCtorEq, Nat.reduceAdd, Nat.reduceMul, Nat.reduceLeDiff, Nat.reduceLT, Nat.reduceSub, Int.reduceNe, Int.reduceEq, Int.reduceLE, Int.reduceLT, Int.reduceToNat])
  simp
 have d : decide ((i : Int) < (K.length : Int)) = true := decide_eq_true (by omega)
 have eti : ((i : Nat) : Int).toNat = i := Int.toNat_natCast i
 have lj : (i : Int) < (K.length : Int) := by omega
 have l0 : (0 : Int) ≤ (i : Int) := by omega
 have wi : IntKind.i64.wrap ((i : Int) + 1) = ((i + 1 : Nat) : Int) := by rw [w_i64 (by omega) (by omega)]; rfl
 obtain ⟨q, hq⟩ : ∃ q, q = K.getD i (0, 0) := ⟨_, rfl⟩
 have hKi : K[i]? = some q := by rw [hq, List.getD_eq_getElem?_getD, List.getElem?_eq_getElem ci]; rfl
 have hqm := List.mem_of_getElem? hKi
 have gq := gK q hqm
 have rq := hright q hqm
 have ldq := (N3.sl.keep F4 (by simp)).ldX ci
 rw [← hq] at ldq
 have hcs := cntK_succ (l := l) (p := p) hKi
 have Fq := Fr.push M4 (.box [.int .u32 q.1, .int .i64 q.2])
 have Aq := At.push M4 (.box [.int .u32 q.1, .int .i64 q.2])
 (repeat (first | refine st ?_ | refine σa ?_ | refine d4_Kpf ?_ | ((first | refine σy ?_ | refine σc ?_); simp (disch := omega) only [push_cast, ↓reduceIte, reduceCtorEq, ν1, ν2, ν3, ν4, ν5, ζ1, ζ2, ζ3, ζ4, ζ5, d, sw, nw, eti, lj, l0, ldq, memE, boxE, boxE, buildE, lsE]) | (refine AL.pu rfl ?_; simp (disch := omega) only [push_cast, ↓reduceIte, reduceCtorEq, ν1, ν2, ν3, ν4, ν5, ζ1, ζ2, ζ3, ζ4, ζ5, d, sw, nw, eti, lj, l0, ldq, memE, boxE, boxE, buildE, lsE]; refine id (α := AL _ _ _ _ _ _) ?_)))
 (repeat (first | refine st ?_ | refine σa ?_ | refine d4_Kpf ?_ | ((first | refine σb ?_ | refine σc ?_); simp (disch := omega) only [push_cast, ↓reduceIte, reduceCtorEq, ν1, ν2, ν3, ν4, ν5, ζ1, ζ2, ζ3, ζ4, ζ5, Aq.ld, memE, boxE, buildE, lsE])))
 refine (grright_spec q _ gq).mono ?_
 rintro r M5 ⟨F5, rfl⟩
 rw [decide_eq_true rq]
 obtain ⟨qb, hqb⟩ : ∃ qb, qb = M4.length := ⟨_, rfl⟩
 rw [← hqb] at Aq ⊢
 have F35 := (F4.tr Fq).tr F5
 have Aq5 := Aq.keep F5 (by simp)
 have Ap5 := A3.keep F35 (by simp)
 have hv5 := hv3.keep F35 (by simp)
 have s5 := hv5.isSl
 have n5 := hv5.lnR
 (repeat (first | refine st ?_ | refine σa ?_ | refine d4_Kpf ?_ | ((first | refine σb ?_ | refine σc ?_); simp (disch := omega) only [push_cast, ↓reduceIte, reduceCtorEq, ν1, ν2, ν3, ν4, ν5, ζ1, ζ2, ζ3, ζ4, ζ5, s5, n5, lsE])))
 refine AW.loopF [10, 12, 38, 39, 40, 41, 42, 43, 44, 45, 46, 47, 48, 49, 50, 51, 52] (fun m g M' => ∃ j : Nat, g 38 = .int .i64 j ∧ j + m = l.length ∧ Fr M5 M' [] ∧ g 10 = .bool (decide (∀ r ∈ l.take j, (inR r p ↔ inR r q)))) l.length ?_ ?_
 ·exact ⟨0, rfl, by omega, Fr.refl _, by rw [decide_eq_true (by simp)]; rfl⟩
 rintro m2 g2 M6 ⟨j, h38, hj, F6, h10⟩
 obtain ⟨sm, hsm⟩ : ∃ sm, sm = decide (∀ r ∈ l.take j, (inR r p ↔ inR r q)) := ⟨_, rfl⟩
 rw [← hsm] at h10
 simp (disch := omega) only [push_cast, ↓reduceIte, reduceCtorEq, Nat.reduceAdd, Nat.reduceMul, Nat.reduceLeDiff, Nat.reduceLT, Nat.reduceSub, Int.reduceNe, Int.reduceEq, Int.reduceLE, Int.reduceLT, Int.reduceToNat, h38, h10]
 have F36 := F35.tr F6
 have Aq6 := Aq5.keep F6 (by simp)
 have Ap6 := Ap5.keep F6 (by simp)
 by_cases cj : j < l.length
 rotate_left
 ·have d2 : decide ((j : Int) < (l.length : Int)) = false := decide_eq_false (by omega)
  obtain rfl : j = l.length := by omega
  rw [List.take_length] at hsm
  have hkk : (∀ r ∈ l, (inR r p ↔ inR r q)) ↔ kindR l q = kindR l p := by rw [eq_comm (a := kindR l q), kindR_eq]
  cases hb : sm with
  | false =>
   rw [hb] at hsm
   have cm := of_decide_eq_false hsm.symm
   rw [hkk] at cm
   rw [if_neg cm] at hcs
   (repeat (first | refine st ?_ | refine σa ?_ | refine d4_Kpf ?_ | ((first | refine σb ?_ | refine σc ?_); simp (disch := omega) only [push_cast, ↓reduceIte, reduceCtorEq, ν1, ν2, ν3, ν4, ν5, ζ1, ζ2, ζ3, ζ4, ζ5, d2, lsE])))
   refine ⟨rfl, m - 1, by omega, i + 1, ?_, by omega, F36, ?_⟩
   ·show Value.int .i64 (IntKind.i64.wrap ((i : Int) + 1)) = _
    rw [wi]
   ·rw [hcs]; rfl
  | true =>
   rw [hb] at hsm
   have cm := of_decide_eq_true hsm.symm
   rw [hkk] at cm
   rw [if_pos cm] at hcs
   have hl := hle q hqm cm
   have dg : decide (q.2 > p.2) = false := decide_eq_false (by unfold leX at hl; omega)
   have wc : IntKind.i64.wrap ((cntK l p K i : Int) + 1) = ((cntK l p K i + 1 : Nat) : Int) := by rw [w_i64 (by omega) (by omega)]; rfl
   by_cases c2 : q.2 = p.2
   ·have de : decide (q.2 = p.2) = true := decide_eq_true c2
    have dh : decide (q.1 > p.1) = false := decide_eq_false (by unfold leX at hl; omega)
    (repeat (first | refine st ?_ | refine σa ?_ | refine d4_Kpf ?_ | ((first | refine σb ?_ | refine σc ?_); simp (disch := omega) only [push_cast, ↓reduceIte, reduceCtorEq, ν1, ν2, ν3, ν4, ν5, ζ1, ζ2, ζ3, ζ4, ζ5, d2, Aq6.ld, Ap6.ld, dg, de, dh, buildE, lsE])))
    refine ⟨rfl, m - 1, by omega, i + 1, ?_, by omega, F36, ?_⟩
    ·show Value.int .i64 (IntKind.i64.wrap ((i : Int) + 1)) = _
     rw [wi]
    ·show Value.int .i64 (IntKind.i64.wrap ((cntK l p K i : Int) + 1)) = _
     rw [hcs, wc]
   ·have de : decide (q.2 = p.2) = false := decide_eq_false c2
    (repeat (first | refine st ?_ | refine σa ?_ | refine d4_Kpf ?_ | ((first | refine σb ?_ | refine σc ?_); simp (disch := omega) only [push_cast, ↓reduceIte, reduceCtorEq, ν1, ν2, ν3, ν4, ν5, ζ1, ζ2, ζ3, ζ4, ζ5, d2, Aq6.ld, Ap6.ld, dg, de, buildE, lsE])))
    refine ⟨rfl, m - 1, by omega, i + 1, ?_, by omega, F36, ?_⟩
    ·show Value.int .i64 (IntKind.i64.wrap ((i : Int) + 1)) = _
     rw [wi]
    ·show Value.int .i64 (IntKind.i64.wrap ((cntK l p K i : Int) + 1)) = _
     rw [hcs, wc]
 have d2 : decide ((j : Int) < (l.length : Int)) = true := decide_eq_true (by omega)
 obtain ⟨x, hxj⟩ : ∃ x, l[j]? = some x := ⟨_, List.getElem?_eq_getElem cj⟩
 have hxm : x ∈ l := List.mem_of_getElem? hxj
 have etj : ((j : Nat) : Int).toNat = j := Int.toNat_natCast j
 have ldx := rg_load (hv5.keep F6 (by simp)) hxj
 have lj3 : (j : Int) < (l.length : Int) := by omega
 have l03 : (0 : Int) ≤ (j : Int) := by omega
 have wj : IntKind.i64.wrap ((j : Int) + 1) = ((j + 1 : Nat) : Int) := by rw [w_i64 (by omega) (by omega)]; rfl
 have htk : (∀ r ∈ l.take (j + 1), (inR r p ↔ inR r q)) ↔ (∀ r ∈ l.take j, (inR r p ↔ inR r q)) ∧ (inR x p ↔ inR x q) := by
  rw [List.take_add_one, hxj, Option.toList_some]
  constructor
  ·exact fun h => ⟨fun r hr => h r (by simp [hr]), h x (by simp)⟩
  ·rintro ⟨h, hx⟩ r hr
   rcases List.mem_append.1 hr with hr | hr
   ·exact h r hr
   ·rw [List.mem_singleton] at hr; subst hr; exact hx
 have Fx := Fr.push M6 (.box (rgL x))
 have aX := At.push M6 (.box (rgL x))
 have Aq7 := Aq6.keep Fx (by simp)
 have Ap7 := Ap6.keep Fx (by simp)
 cases hb : sm with
 | false =>
  rw [hb] at hsm
  have cm := of_decide_eq_false hsm.symm
  (repeat (first | refine st ?_ | refine σa ?_ | refine d4_Kpf ?_ | ((first | refine σb ?_ | refine σc ?_); simp (disch := omega) only [push_cast, ↓reduceIte, reduceCtorEq, ν1, ν2, ν3, ν4, ν5, ζ1, ζ2, ζ3, ζ4, ζ5, d2, s5, n5, etj, lj3, l03, ldx, rgL_len, rgL_drop, rgL_take, rgL_one, memE, boxE, boxE, buildE, lsE])))
  refine ⟨rfl, m2 - 1, by omega, j + 1, ?_, by omega, F6.tr Fx, ?_⟩
  ·show Value.int .i64 (IntKind.i64.wrap ((j : Int) + 1)) = _
   rw [wj]
  ·show Value.bool false = _
   rw [decide_eq_false (fun h => cm (htk.1 h).1)]
 | true =>
  rw [hb] at hsm
  have cm := of_decide_eq_true hsm.symm
  (repeat (first | refine st ?_ | refine σa ?_ | refine d4_Kpf ?_ | ((first | refine σy ?_ | refine σc ?_); simp (disch := omega) only [push_cast, ↓reduceIte, reduceCtorEq, ν1, ν2, ν3, ν4, ν5, ζ1, ζ2, ζ3, ζ4, ζ5, d2, s5, n5, etj, lj3, l03, ldx, rgL_len, rgL_drop, rgL_take, rgL_one, memE, boxE, boxE, buildE, lsE]) | (refine AL.pu rfl ?_; simp (disch := omega) only [push_cast, ↓reduceIte, reduceCtorEq, ν1, ν2, ν3, ν4, ν5, ζ1, ζ2, ζ3, ζ4, ζ5, d2, s5, n5, etj, lj3, l03, ldx, rgL_len, rgL_drop, rgL_take, rgL_one, memE, boxE, boxE, buildE, lsE]; refine id (α := AL _ _ _ _ _ _) ?_)))
  simp (disch := omega) only [push_cast, ↓reduceIte, reduceCtorEq, Nat.reduceAdd, Nat.reduceMul, Nat.reduceLeDiff, Nat.reduceLT, Nat.reduceSub, Int.reduceNe, Int.reduceEq, Int.reduceLE, Int.reduceLT, Int.reduceToNat, Ap7.ld, Aq7.ld, aX.ld, rgL_len, rgL_take, memE, boxE, buildE]
  (repeat (first | refine st ?_ | refine σa ?_ | refine d4_Kpf ?_ | ((first | refine σb ?_ | refine σc ?_); simp (disch := omega) only [push_cast, ↓reduceIte, reduceCtorEq, ν1, ν2, ν3, ν4, ν5, ζ1, ζ2, ζ3, ζ4, ζ5, Ap7.ld, Aq7.ld, aX.ld, rgL_len, rgL_take, memE, boxE, buildE, lsE])))
  refine (pfin_spec x p _ (hg x hxm) gp).mono ?_
  rintro r M8 ⟨F8, rfl⟩
  refine ⟨F8, ?_⟩
  (repeat (first | refine st ?_ | refine σa ?_ | refine d4_Kpf ?_ | ((first | refine σb ?_ | refine σc ?_); simp (disch := omega) only [push_cast, ↓reduceIte, reduceCtorEq, ν1, ν2, ν3, ν4, ν5, ζ1, ζ2, ζ3, ζ4, ζ5, lsE])))
  refine (pfin_spec x q _ (hg x hxm) gq).mono ?_
  rintro r M9 ⟨F9, rfl⟩
  obtain ⟨bb, hbb⟩ : ∃ bb, (decide (inR x p) == decide (inR x q)) = bb := ⟨_, rfl⟩
  have heq : abin2 Try.prog .eql 4 (.bool (decide (inR x p))) (.bool (decide (inR x q))) = some (.bool bb) := by rw [← hbb]; kernel_rfl
  (repeat (first | refine st ?_ | refine σa ?_ | refine d4_Kpf ?_ | ((first | refine σb ?_ | refine σc ?_); simp (disch := omega) only [push_cast, ↓reduceIte, reduceCtorEq, ν1, ν2, ν3, ν4, ν5, ζ1, ζ2, ζ3, ζ4, ζ5, heq, Option.some.injEq, exists_eq_left', lsE])))
  refine ⟨rfl, m2 - 1, by omega, j + 1, ?_, by omega, ((F6.tr Fx).tr F8).tr F9, ?_⟩
  ·show Value.int .i64 (IntKind.i64.wrap ((j : Int) + 1)) = _
   rw [wj]
  ·show Value.bool bb = _
   congr 1
   rw [← hbb, Bool.eq_iff_iff, decide_eq_true_eq, htk]
   by_cases h1 : inR x p <;> by_cases h2 : inR x q <;> simp [h1, h2]
   all_goals exact cm
end Go.Proofs.Ytbdejnnbpdgjlaa.Ax
