/- Contracts of functions over the abstract machine. No conditions: lemmas alone. -/
import Derived.Test.YtbdejnnbpdgjlaaPeerPiecesLibD
import Derived.Test.YtbdejnnbpdgjlaaPeerPiecesP0
import Derived.Test.YtbdejnnbpdgjlaaPeerPiecesP11
import Derived.Test.YtbdejnnbpdgjlaaPeerPiecesP8
import Derived.Test.YtbdejnnbpdgjlaaPeerPiecesP2
namespace Go.Proofs.Ytbdejnnbpdgjlaa.Ax
open Go Go.RowKit
open Nat renaming reduceAdd → ν1, reduceMul → ν2, reduceLeDiff → ν3, reduceLT → ν4, reduceSub → ν5
open Int renaming reduceNe → ζ1, reduceEq → ζ2, reduceLE → ζ3, reduceLT → ζ4, reduceToNat → ζ5
set_option linter.unusedVariables false
set_option linter.unusedSimpArgs false
set_option maxRecDepth 100000
set_option maxHeartbeats 20000000
attribute [local irreducible] thenA blockA scopeA retA AL AW AD ADL AH clrK CallA apure aload bload appK ptrK fnK ares szOk planOk okOps
theorem d127_Pu1 {g n : Prop} (k : n) (h : n → g := by first | exact AW.dr (id := 4) (by rfl) [0, 1, 2, 3, 4, 5, 6, 7, 8, 9, 10, 11] (by kernel_rfl) (by kernel_rfl) | exact AW.dr (id := 6) (by rfl) [0, 1, 2, 3, 4, 5, 6] (by kernel_rfl) (by kernel_rfl)) : g := h k
theorem a127_Pu1 {g n : Prop} (k : n) (h : n → g := by first | exact AH.ca (dst := some 28) rfl) : g := h k
theorem rise_of {l : List Int} (h : ∀ i, i + 1 < l.length → l.getD i 0 < l.getD (i + 1) 0) : l.Pairwise (· < ·) := by
 induction l with
 | nil => exact .nil
 | cons x l ih =>
  have ht := ih fun i hi => by have := h (i + 1) (by simp; omega); simpa using this
  refine List.pairwise_cons.2 ⟨fun y hy => ?_, ht⟩
  cases l with
  | nil => cases hy
  | cons z l =>
   have h0 := h 0 (by simp)
   simp at h0
   rcases List.mem_cons.1 hy with rfl | hy
   ·exact h0
   ·have := (List.pairwise_cons.1 ht).1 y hy; omega
theorem rise_at {l : List Int} (h : l.Pairwise (· < ·)) {i j : Nat} (hij : i < j) (hj : j < l.length) : l.getD i 0 < l.getD j 0 := by
 rw [getD_lt hj, getD_lt (by omega)]
 exact List.pairwise_iff_getElem.1 h i j (by omega) hj hij
theorem mask_spec (M : Mem) : CallA Try.prog 46 [.agg ⟨[.int .u32 0, .int .i64 0]⟩] M fun r M' => Fr M M' [] ∧ r = .agg ⟨[.int .u32 0, .int .i64 0]⟩ := by
 have z : (if (0 : Int) > 0 then (0 : Int) else 0) = 0 := rfl
 (refine CallA.of_body Try.func46 rfl (by rfl) ?_; simp only [Try.ntmps46, List.length_cons, List.length_nil, List.replicate, List.cons_append, List.nil_append, Nat.reduceSub, Nat.reduceAdd])
 (repeat (first | refine st ?_ | refine σa ?_ | (refine σb ?_; simp (disch := omega) only [push_cast, ↓reduceIte, reduceCtorEq, ν1, ν2, ν3, ν4, ν5, ζ1, ζ2, ζ3, ζ4, ζ5, z, Int.zero_fdiv, Int.zero_mul, w_i64, w_u64, w_u32, buildE, memE, boxE])))
 ((first | refine retA.ret (by rfl) ?_ | refine retA.normal (by rfl) ?_); simp (disch := omega) only [push_cast, ↓reduceIte, reduceCtorEq, Nat.reduceAdd, Nat.reduceMul, Nat.reduceLeDiff, Nat.reduceLT, Nat.reduceSub, Int.reduceNe, Int.reduceEq, Int.reduceLE, Int.reduceLT, Int.reduceToNat, memE, boxE])
 exact Fr.push2 _ _ _
def validP (p c : List Int) (o : Int) : Prop := c.Pairwise (· < ·) ∧ p.length ≤ 255 ∧ c.length ≤ 255 ∧ 0 ∉ p ∧ 0 ≤ o ∧ o ≤ 2
instance (p c : List Int) (o : Int) : Decidable (validP p c o) := by unfold validP; infer_instance
theorem valid_spec (p c : Value) (ps cs : List Int) (o : Int) (M : Mem) (hp : Sl M p 1 (ints .u32 ps)) (hc : Sl M c 1 (ints .u32 cs)) (h1 : ps.length ≤ 1000000000) (h2 : cs.length ≤ 1000000000) :
  CallA Try.prog 127 [.agg ⟨[.int .u32 0, .int .i64 0, p, c, .int .u32 0, .int .u32 0, .int .i64 o, .int .u32 0]⟩] M fun r M' => Fr M M' [] ∧ r = .bool (decide (validP ps cs o)) := by
 obtain ⟨M0, hM0⟩ : ∃ M0, M0 = M ++ [Blk.box [.int .u32 0, .int .i64 0, p, c, .int .u32 0, .int .u32 0, .int .i64 o, .int .u32 0]] := ⟨_, rfl⟩
 have hF : Fr M M0 [] := by rw [hM0]; exact Fr.push _ _
 have l1 : ∀ ty j, aload Try.prog ty M0 M.length j = bload Try.prog ty [.int .u32 0, .int .i64 0, p, c, .int .u32 0, .int .u32 0, .int .i64 o, .int .u32 0] j := fun ty j => by rw [hM0]; exact ld_one _ _ _ _ _
 have hp0 := hp.keep hF (by simp)
 have hc0 := hc.keep hF (by simp)
 have hsc := hc.isSl
 have hnc := hc.lnI
 have hsp := hp.isSl
 have hnp := hp.lnI
 (refine CallA.of_body Try.func127 rfl (by rfl) ?_; simp only [Try.ntmps127, List.length_cons, List.length_nil, List.replicate, List.cons_append, List.nil_append, Nat.reduceSub, Nat.reduceAdd])
 (repeat (first | refine st ?_ | refine σa ?_ | refine d127_Pu1 ?_ | ((first | refine a127_Pu1 ?_ | refine σb ?_ | refine σc ?_); simp (disch := omega) only [push_cast, ↓reduceIte, reduceCtorEq, ν1, ν2, ν3, ν4, ν5, ζ1, ζ2, ζ3, ζ4, ζ5, hsc, hnc])))
 rw [← hM0]
 refine AW.loopF [2, 3, 4, 5, 6, 7, 8, 9, 10, 11, 12, 13, 14, 15, 16, 17, 18, 19, 20, 21, 22] (fun m g M' => ∃ i : Nat, g 3 = .int .i64 i ∧ i + m = cs.length + 1 ∧ 1 ≤ i ∧ M' = M0 ∧ ∀ q, q + 1 < i → q + 1 < cs.length → cs.getD q 0 < cs.getD (q + 1) 0) cs.length ?_ ?_
 ·exact ⟨1, rfl, by omega, by omega, rfl, fun q h => by omega⟩
 rintro m g M1 ⟨i, h3, hi, hi1, rfl, he⟩
 simp (disch := omega) only [push_cast, ↓reduceIte, reduceCtorEq, Nat.reduceAdd, Nat.reduceMul, Nat.reduceLeDiff, Nat.reduceLT, Nat.reduceSub, Int.reduceNe, Int.reduceEq, Int.reduceLE, Int.reduceLT, Int.reduceToNat, h3]
 (repeat (first | refine st ?_ | refine σa ?_ | refine d127_Pu1 ?_ | ((first | refine a127_Pu1 ?_ | refine σb ?_ | refine σc ?_); simp (disch := omega) only [push_cast, ↓reduceIte, reduceCtorEq, ν1, ν2, ν3, ν4, ν5, ζ1, ζ2, ζ3, ζ4, ζ5, l1, hsc, hnc])))
 ((first | refine AL.gu rfl (fun hlt => ?_) (fun hlt => ?_) | refine AW.condS rfl rfl (fun hlt => ?_) (fun hlt => ?_)) <;> (try (have hlt' := hlt; simp only [Bool.not_eq_true', Bool.not_eq_false', Bool.not_true, Bool.not_false, decide_eq_true_eq, decide_eq_false_iff_not, Classical.not_not, Int.not_lt, Int.not_le, gt_iff_lt, ge_iff_le, beq_iff_eq] at hlt')))
 ·have e1 := hc0.ldN (P := Try.prog) (ty := 30) (i := i) (by kernel_rfl) (by omega)
  have e2 := hc0.ldN (P := Try.prog) (ty := 30) (i := i - 1) (by kernel_rfl) (by omega)
  have t1 : ((i : Int) - 1).toNat = i - 1 := by omega
  by_cases c1 : cs.getD i 0 ≤ cs.getD (i - 1) 0
  ·have d1 : decide (cs.getD i 0 ≤ cs.getD (i - 1) 0) = true := decide_eq_true c1
   (repeat (first | refine st ?_ | refine σa ?_ | refine d127_Pu1 ?_ | ((first | refine a127_Pu1 ?_ | refine σb ?_ | refine σc ?_); simp (disch := omega) only [push_cast, ↓reduceIte, reduceCtorEq, ν1, ν2, ν3, ν4, ν5, ζ1, ζ2, ζ3, ζ4, ζ5, l1, hsc, hnc, e1, e2, d1, t1, w_i64, Int.toNat_natCast])))
   ((first | refine retA.ret (by rfl) ?_ | refine retA.normal (by rfl) ?_); simp (disch := omega) only [push_cast, ↓reduceIte, reduceCtorEq, Nat.reduceAdd, Nat.reduceMul, Nat.reduceLeDiff, Nat.reduceLT, Nat.reduceSub, Int.reduceNe, Int.reduceEq, Int.reduceLE, Int.reduceLT, Int.reduceToNat])
   refine ⟨hF, ?_⟩
   have : ¬ validP ps cs o := fun h => by have := rise_at h.1 (i := i - 1) (j := i) (by omega) (by omega); omega
   simp [this]
  ·have d1 : decide (cs.getD i 0 ≤ cs.getD (i - 1) 0) = false := decide_eq_false c1
   (repeat (first | refine st ?_ | refine σa ?_ | refine d127_Pu1 ?_ | ((first | refine a127_Pu1 ?_ | refine σb ?_ | refine σc ?_); simp (disch := omega) only [push_cast, ↓reduceIte, reduceCtorEq, ν1, ν2, ν3, ν4, ν5, ζ1, ζ2, ζ3, ζ4, ζ5, l1, hsc, hnc, e1, e2, d1, t1, w_i64, Int.toNat_natCast])))
   refine ⟨rfl, m - 1, by omega, i + 1, rfl, by omega, by omega, rfl, fun q hq hq2 => ?_⟩
   by_cases e : q + 1 = i
   ·subst e
    have e2 : q + 1 - 1 = q := by omega
    rw [e2] at c1; omega
   ·exact he q (by omega) hq2
 ·have hris : cs.Pairwise (· < ·) := rise_of fun q hq => he q (by omega) hq
  (repeat (first | refine st ?_ | refine σa ?_ | refine d127_Pu1 ?_ | ((first | refine a127_Pu1 ?_ | refine σb ?_ | refine σc ?_); simp (disch := omega) only [push_cast, ↓reduceIte, reduceCtorEq, ν1, ν2, ν3, ν4, ν5, ζ1, ζ2, ζ3, ζ4, ζ5, l1, buildE])))
  refine (mask_spec _).mono ?_
  rintro r M2 ⟨hF2, rfl⟩
  refine ⟨hF2, ?_⟩
  refine ADL.hd rfl ?_
  refine AH.neS (by kernel_rfl) rfl rfl rfl ⟨true, by kernel_rfl, ?_⟩
  simp (disch := omega) only [push_cast, ↓reduceIte, reduceCtorEq, Nat.reduceAdd, Nat.reduceMul, Nat.reduceLeDiff, Nat.reduceLT, Nat.reduceSub, Int.reduceNe, Int.reduceEq, Int.reduceLE, Int.reduceLT, Int.reduceToNat]
  have l2 : ∀ ty j, aload Try.prog ty M2 M.length j = bload Try.prog ty [.int .u32 0, .int .i64 0, p, c, .int .u32 0, .int .u32 0, .int .i64 o, .int .u32 0] j := fun ty j => by
   have a : At M1 M.length (.box [.int .u32 0, .int .i64 0, p, c, .int .u32 0, .int .u32 0, .int .i64 o, .int .u32 0]) := by rw [hM0]; exact At.push _ _
   exact (a.keep hF2 (by simp)).ld
  have hFF := hF.tr hF2
  by_cases c2 : ps.length > 255
  ·have d2 : decide ((ps.length : Int) > 255) = true := decide_eq_true (by omega)
   (repeat (first | refine st ?_ | refine σa ?_ | refine d127_Pu1 ?_ | ((first | refine a127_Pu1 ?_ | refine σb ?_ | refine σc ?_); simp (disch := omega) only [push_cast, ↓reduceIte, reduceCtorEq, ν1, ν2, ν3, ν4, ν5, ζ1, ζ2, ζ3, ζ4, ζ5, l2, hsp, hnp, d2, Bool.not_true])))
   ((first | refine retA.ret (by rfl) ?_ | refine retA.normal (by rfl) ?_); simp (disch := omega) only [push_cast, ↓reduceIte, reduceCtorEq, Nat.reduceAdd, Nat.reduceMul, Nat.reduceLeDiff, Nat.reduceLT, Nat.reduceSub, Int.reduceNe, Int.reduceEq, Int.reduceLE, Int.reduceLT, Int.reduceToNat])
   have : ¬ validP ps cs o := fun h => by have := h.2.1; omega
   exact ⟨hFF, by simp [this]⟩
  have d2 : decide ((ps.length : Int) > 255) = false := decide_eq_false (by omega)
  by_cases c3 : cs.length > 255
  ·have d3 : decide ((cs.length : Int) > 255) = true := decide_eq_true (by omega)
   (repeat (first | refine st ?_ | refine σa ?_ | refine d127_Pu1 ?_ | ((first | refine a127_Pu1 ?_ | refine σb ?_ | refine σc ?_); simp (disch := omega) only [push_cast, ↓reduceIte, reduceCtorEq, ν1, ν2, ν3, ν4, ν5, ζ1, ζ2, ζ3, ζ4, ζ5, l2, hsp, hnp, hsc, hnc, d2, d3, Bool.not_true])))
   ((first | refine retA.ret (by rfl) ?_ | refine retA.normal (by rfl) ?_); simp (disch := omega) only [push_cast, ↓reduceIte, reduceCtorEq, Nat.reduceAdd, Nat.reduceMul, Nat.reduceLeDiff, Nat.reduceLT, Nat.reduceSub, Int.reduceNe, Int.reduceEq, Int.reduceLE, Int.reduceLT, Int.reduceToNat])
   have : ¬ validP ps cs o := fun h => by have := h.2.2.1; omega
   exact ⟨hFF, by simp [this]⟩
  have d3 : decide ((cs.length : Int) > 255) = false := decide_eq_false (by omega)
  (repeat (first | refine st ?_ | refine σa ?_ | refine d127_Pu1 ?_ | ((first | refine a127_Pu1 ?_ | refine σb ?_ | refine σc ?_); simp (disch := omega) only [push_cast, ↓reduceIte, reduceCtorEq, ν1, ν2, ν3, ν4, ν5, ζ1, ζ2, ζ3, ζ4, ζ5, l2, hsp, hnp, hsc, hnc, d2, d3, Bool.not_true])))
  refine (has_spec p ps 0 M2 (hp.keep hFF (by simp)) h1).mono ?_
  rintro r M3 ⟨rfl, rfl⟩
  by_cases c4 : (0 : Int) ∈ ps
  ·have d4 : decide ((0 : Int) ∈ ps) = true := decide_eq_true c4
   (repeat (first | refine st ?_ | refine σa ?_ | refine d127_Pu1 ?_ | ((first | refine a127_Pu1 ?_ | refine σb ?_ | refine σc ?_); simp (disch := omega) only [push_cast, ↓reduceIte, reduceCtorEq, ν1, ν2, ν3, ν4, ν5, ζ1, ζ2, ζ3, ζ4, ζ5, d4])))
   ((first | refine retA.ret (by rfl) ?_ | refine retA.normal (by rfl) ?_); simp (disch := omega) only [push_cast, ↓reduceIte, reduceCtorEq, Nat.reduceAdd, Nat.reduceMul, Nat.reduceLeDiff, Nat.reduceLT, Nat.reduceSub, Int.reduceNe, Int.reduceEq, Int.reduceLE, Int.reduceLT, Int.reduceToNat])
   have : ¬ validP ps cs o := fun h => h.2.2.2.1 c4
   exact ⟨hFF, by simp [this]⟩
  have d4 : decide ((0 : Int) ∈ ps) = false := decide_eq_false c4
  by_cases c5 : 0 ≤ o
  ·have d5 : decide (o ≥ 0) = true := decide_eq_true c5
   (repeat (first | refine st ?_ | refine σa ?_ | refine d127_Pu1 ?_ | ((first | refine a127_Pu1 ?_ | refine σb ?_ | refine σc ?_); simp (disch := omega) only [push_cast, ↓reduceIte, reduceCtorEq, ν1, ν2, ν3, ν4, ν5, ζ1, ζ2, ζ3, ζ4, ζ5, d4, d5, l2])))
   ((first | refine retA.ret (by rfl) ?_ | refine retA.normal (by rfl) ?_); simp (disch := omega) only [push_cast, ↓reduceIte, reduceCtorEq, Nat.reduceAdd, Nat.reduceMul, Nat.reduceLeDiff, Nat.reduceLT, Nat.reduceSub, Int.reduceNe, Int.reduceEq, Int.reduceLE, Int.reduceLT, Int.reduceToNat])
   refine ⟨hFF, ?_⟩
   have : validP ps cs o ↔ o ≤ 2 := ⟨fun h => h.2.2.2.2.2, fun h => ⟨hris, by omega, by omega, c4, c5, h⟩⟩
   simp [this]
  ·have d5 : decide (o ≥ 0) = false := decide_eq_false c5
   (repeat (first | refine st ?_ | refine σa ?_ | refine d127_Pu1 ?_ | ((first | refine a127_Pu1 ?_ | refine σb ?_ | refine σc ?_); simp (disch := omega) only [push_cast, ↓reduceIte, reduceCtorEq, ν1, ν2, ν3, ν4, ν5, ζ1, ζ2, ζ3, ζ4, ζ5, d4, d5, l2])))
   ((first | refine retA.ret (by rfl) ?_ | refine retA.normal (by rfl) ?_); simp (disch := omega) only [push_cast, ↓reduceIte, reduceCtorEq, Nat.reduceAdd, Nat.reduceMul, Nat.reduceLeDiff, Nat.reduceLT, Nat.reduceSub, Int.reduceNe, Int.reduceEq, Int.reduceLE, Int.reduceLT, Int.reduceToNat])
   refine ⟨hFF, ?_⟩
   have : ¬ validP ps cs o := fun h => c5 h.2.2.2.2.1
   simp [this]
end Go.Proofs.Ytbdejnnbpdgjlaa.Ax
namespace Go.Proofs.Ytbdejnnbpdgjlaa.Ax
open Go Go.RowKit
set_option linter.unusedVariables false
set_option linter.unusedSimpArgs false
set_option maxRecDepth 100000
set_option maxHeartbeats 20000000
theorem Own.openI {M : Mem} {v : Value} {k : IntKind} {xs : List Int} (h : Own M v 1 (ints k xs)) (hne : xs ≠ []) : ∃ b off c pre, v = .slice (some ⟨b, off, none⟩) xs.length c ∧ M[b]? = some (.row true 1 (pre ++ ints k xs)) ∧ pre.length = off ∧ c ≠ 0 ∧ xs.length ≤ capLb c := by
 have hp := List.length_pos_iff.2 hne
 have hl := h.sl.len
 rw [ints_length] at hl
 rcases h.own with rfl | ⟨a, rfl⟩ | ⟨b, off, n, c, cc, rfl, hc, hb, hend⟩
 ·simp [sln] at hl; omega
 ·simp [sln] at hl; omega
 ·have hn : n = xs.length := by simpa [sln] using hl
  subst hn
  have hg := h.get hb hend
  rw [ints_length] at hend
  refine ⟨b, off, c, cc.take off, rfl, ?_, by rw [List.length_take]; omega, hc, ?_⟩
  ·rw [← hg, List.take_append_drop]; exact hb
  ·rcases h.sl.base with he | ⟨b', off', n', c', he, _, hcap⟩
   ·cases he
   ·cases he; exact hcap
theorem splI {k : IntKind} {pre : List Value} {xs : List Int} {off i : Nat} (hp : pre.length = off) (hi : i < xs.length) (y : Int) : spl (pre ++ ints k xs) (off + i) [.int k y] = pre ++ ints k (xs.set i y) := by
 unfold spl
 subst hp
 have e1 : (pre ++ ints k xs).take (pre.length + i) = pre ++ (ints k xs).take i := by rw [List.take_append, List.take_of_length_le (by omega)]; congr 2; omega
 have e2 : (pre ++ ints k xs).drop (pre.length + i + 1) = (ints k xs).drop (i + 1) := by rw [List.drop_append, List.drop_of_length_le (by omega), List.nil_append]; congr 1; omega
 rw [show [Value.int k y].length = 1 from rfl, e1, e2, List.append_assoc, List.append_assoc]
 congr 1
 unfold ints
 rw [List.map_set, List.set_eq_take_append_cons_drop, if_pos (by simpa using hi)]
 rfl
theorem ownI {M : Mem} {k : IntKind} {xs : List Int} {b off c : Nat} {pre : List Value} (hb : M[b]? = some (.row true 1 (pre ++ ints k xs))) (hp : pre.length = off) (hc : c ≠ 0) (hcap : xs.length ≤ capLb c) : Own M (.slice (some ⟨b, off, none⟩) xs.length c) 1 (ints k xs) := by
 have hl : xs.length * 1 = (ints k xs).length := by rw [ints_length]; omega
 refine ⟨⟨.inr ⟨b, off, _, c, rfl, (List.getElem?_eq_some_iff.1 hb).1, hcap⟩, hl, ⟨by omega, fun a n c' B hv _ hB => ?_⟩, ints_one _ _, fun _ => ?_⟩, .inr (.inr ⟨b, off, _, c, _, rfl, hc, hb, by rw [List.length_append, hp]⟩)⟩
 ·cases hv
  rw [hb] at hB
  cases hB; rfl
 ·show cellsM M b off _ = _
  unfold cellsM
  rw [hb, Option.bind_some]
  rw [if_pos (show off + (ints k xs).length ≤ (Blk.row true 1 (pre ++ ints k xs)).cells.length by show _ ≤ (pre ++ ints k xs).length; rw [List.length_append]; omega)]
  show some (((pre ++ ints k xs).drop off).take (ints k xs).length) = _
  rw [← hp, List.drop_left, List.take_length]
theorem roomI {k : IntKind} {pre : List Value} {xs : List Int} {off i : Nat} (hp : pre.length = off) (hi : i < xs.length) : off + i + 1 ≤ (pre ++ ints k xs).length := by rw [List.length_append, ints_length]; omega
theorem or16 {x : Int} (hx : x = 64 ∨ x = 128 ∨ x = 192 ∨ x = 0) : bits .u8 (BitVec.ofInt IntKind.u8.bits x ||| BitVec.ofInt IntKind.u8.bits 16) = .int .u8 (x + 16) := by
 rcases hx with rfl | rfl | rfl | rfl <;> kernel_rfl
end Go.Proofs.Ytbdejnnbpdgjlaa.Ax
namespace Go.Proofs.Ytbdejnnbpdgjlaa.Ax
open Go Go.RowKit
open Nat renaming reduceAdd → ν1, reduceMul → ν2, reduceLeDiff → ν3, reduceLT → ν4, reduceSub → ν5
open Int renaming reduceNe → ζ1, reduceEq → ζ2, reduceLE → ζ3, reduceLT → ζ4, reduceToNat → ζ5
set_option linter.unusedVariables false
set_option linter.unusedSimpArgs false
set_option maxRecDepth 100000
set_option maxHeartbeats 20000000
attribute [local irreducible] thenA blockA scopeA retA AL AW AD ADL AH clrK CallA apure aload bload appK ptrK fnK ares szOk planOk okOps
theorem e24 : (2 : Int) ^ min 24 IntKind.u32.bits = 16777216 := by decide
theorem e16 : (2 : Int) ^ min 16 IntKind.u32.bits = 65536 := by decide
theorem e8 : (2 : Int) ^ min 8 IntKind.u32.bits = 256 := by decide
theorem e8i : (2 : Int) ^ min 8 IntKind.i64.bits = 256 := by decide
theorem anums_spec (v : Value) (xs : List Int) (M : Mem) (hv : Sl M v 1 (ints .u32 xs)) (hb : ∀ x ∈ xs, 0 ≤ x ∧ x ≤ 4294967295) (hl : xs.length ≤ 1000000) : CallA Try.prog 132 [v] M fun r M' => New M M' r 1 (ints .u8 (foursL xs)) ∧ Fr M M' [] := by
 have hs := hv.isSl
 have hn := hv.lnI
 (refine CallA.of_body Try.func132 rfl (by rfl) ?_; simp only [Try.ntmps132, List.length_cons, List.length_nil, List.replicate, List.cons_append, List.nil_append, Nat.reduceSub, Nat.reduceAdd])
 (repeat (first | refine st ?_ | refine σa ?_ | (refine σb ?_; simp (disch := omega) only [push_cast, ↓reduceIte, reduceCtorEq, ν1, ν2, ν3, ν4, ν5, ζ1, ζ2, ζ3, ζ4, ζ5, hs, hn])))
 refine AW.loopF [3, 5, 8, 9, 10, 11, 12, 13, 14, 15, 16, 17, 18, 19, 20, 21, 22, 23, 24, 25, 26] (fun n f M' => ∃ i : Nat, f 8 = .int .i64 i ∧ i + n = xs.length ∧ ∃ o, f 3 = o ∧ New M M' o 1 (ints .u8 (foursL (xs.take i))) ∧ Fr M M' []) xs.length ?_ ?_
 ·exact ⟨0, rfl, by omega, _, rfl, New.nil M (by omega), Fr.refl M⟩
 rintro n f M1 ⟨i, h8, hi, o, h3, hN, hF⟩
 simp (disch := omega) only [push_cast, ↓reduceIte, reduceCtorEq, Nat.reduceAdd, Nat.reduceMul, Nat.reduceLeDiff, Nat.reduceLT, Nat.reduceSub, Int.reduceNe, Int.reduceEq, Int.reduceLE, Int.reduceLT, Int.reduceToNat, h8, h3]
 (repeat (first | refine st ?_ | refine σa ?_ | (refine σb ?_; simp (disch := omega) only [push_cast, ↓reduceIte, reduceCtorEq, ν1, ν2, ν3, ν4, ν5, ζ1, ζ2, ζ3, ζ4, ζ5])))
 ((first | refine AL.gu rfl (fun h => ?_) (fun h => ?_) | refine AW.condS rfl rfl (fun h => ?_) (fun h => ?_)) <;> (try (have h' := h; simp only [Bool.not_eq_true', Bool.not_eq_false', Bool.not_true, Bool.not_false, decide_eq_true_eq, decide_eq_false_iff_not, Classical.not_not, Int.not_lt, Int.not_le, gt_iff_lt, ge_iff_le, beq_iff_eq] at h')))
 ·have hil : i < xs.length := by omega
  have hv1 := hv.keep hF (by simp)
  have hld := hv1.ldN (P := Try.prog) (ty := 30) (i := i) (by kernel_rfl) hil
  have hx := hb _ (getD_mem hil)
  generalize hxe : xs.getD i 0 = x at *
  have hx0 := hx.1
  have hx1 := hx.2
  have q24 : x / 16777216 % 256 = x / 16777216 := by omega
  (repeat (first | refine st ?_ | refine σa ?_ | (refine σb ?_; simp (disch := omega) only [push_cast, ↓reduceIte, reduceCtorEq, ν1, ν2, ν3, ν4, ν5, ζ1, ζ2, ζ3, ζ4, ζ5, hs, hn, hld, Int.toNat_natCast, fdiv_in, e24, e16, e8, wm_u8, q24])))
  have hrow := New.row M1 (s := 1) (n := 4) (cs := ints .u8 [x / 16777216, x / 65536 % 256, x / 256 % 256, x % 256]) (by omega) rfl rfl (by decide)
  have hN' := hN.keep (Fr.push M1 (.row true 1 (ints .u8 [x / 16777216, x / 65536 % 256, x / 256 % 256, x % 256]))) (by simp)
  have hlen : (foursL (xs.take i)).length ≤ 4 * i := by rw [foursL_length]; simp; omega
  refine appK.ints (P := Try.prog) (e := 5) (bt := 1) (z := .int .u8 0) (by kernel_rfl) (by kernel_rfl) (by kernel_rfl) (by kernel_rfl) (by decide) hN'.1 hrow.sl (by simp; omega) ?_
  intro v' M3 hN3 hF3
  (repeat (first | refine st ?_ | refine σa ?_ | (refine σb ?_; simp (disch := omega) only [push_cast, ↓reduceIte, reduceCtorEq, ν1, ν2, ν3, ν4, ν5, ζ1, ζ2, ζ3, ζ4, ζ5])))
  refine ⟨rfl, n - 1, by omega, i + 1, by simp (disch := omega) only [push_cast, ↓reduceIte, reduceCtorEq, Nat.reduceAdd, Nat.reduceMul, Nat.reduceLeDiff, Nat.reduceLT, Nat.reduceSub, Int.reduceNe, Int.reduceEq, Int.reduceLE, Int.reduceLT, Int.reduceToNat, w_i64], by omega, ?_, (hF.tr (Fr.push M1 _)).new hN' hF3⟩
  have e : foursL (xs.take (i + 1)) = foursL (xs.take i) ++ [x / 16777216, x / 65536 % 256, x / 256 % 256, x % 256] := by
   rw [take_snocI hil, hxe]; simp [foursL, List.flatMap_append]
  rw [e]
  exact hN3.after (hF.tr (Fr.push M1 _))
 ·(repeat (first | refine st ?_ | refine σa ?_ | (refine σb ?_; simp (disch := omega) only [push_cast, ↓reduceIte, reduceCtorEq, ν1, ν2, ν3, ν4, ν5, ζ1, ζ2, ζ3, ζ4, ζ5])))
  ((first | refine retA.ret (by rfl) ?_ | refine retA.normal (by rfl) ?_); simp (disch := omega) only [push_cast, ↓reduceIte, reduceCtorEq, Nat.reduceAdd, Nat.reduceMul, Nat.reduceLeDiff, Nat.reduceLT, Nat.reduceSub, Int.reduceNe, Int.reduceEq, Int.reduceLE, Int.reduceLT, Int.reduceToNat])
  obtain rfl : i = xs.length := by omega
  rw [List.take_length] at hN
  exact ⟨hN, hF⟩
theorem New.lit (M : Mem) (n : Nat) (xs : List Int) (h : n = xs.length) (hn : n < capLow) : New M (M ++ [.row true 1 (ints .u8 xs)]) (.slice (some ⟨M.length, 0, none⟩) n n) 1 (ints .u8 xs) := New.row M (by omega) (by rw [ints_length]; omega) (ints_one _ _) hn
theorem right_spec (a : AV) (p c : Value) (M : Mem) (hp : Sl M p 1 (ints .u32 a.path)) (hc : Sl M c 1 (ints .u32 a.comms)) (h1 : a.path.length ≤ 1000000000) (h2 : a.comms.length ≤ 1000000000) : CallA Try.prog 98 [.agg ⟨avL a p c⟩] M fun r M' => Fr M M' [] ∧ r = .bool (decide (rightP a)) := by
 unfold avL
 have fb := Fr.push M (.box (avL a p c))
 have hcp := isSl_cl hp.isSl
 have hcc := isSl_cl hc.isSl
 (refine CallA.of_body Try.func98 rfl (by rfl) ?_; simp only [Try.ntmps98, List.length_cons, List.length_nil, List.replicate, List.cons_append, List.nil_append, Nat.reduceSub, Nat.reduceAdd])
 (repeat (first | refine st ?_ | refine σa ?_ | (refine σb ?_; simp (disch := omega) only [push_cast, ↓reduceIte, reduceCtorEq, ν1, ν2, ν3, ν4, ν5, ζ1, ζ2, ζ3, ζ4, ζ5, memE, boxE])))
 by_cases c1 : a.hop = 0
 ·have d : decide (a.hop = 0) = true := decide_eq_true c1
  (repeat (first | refine st ?_ | refine σa ?_ | (refine σb ?_; simp (disch := omega) only [push_cast, ↓reduceIte, reduceCtorEq, ν1, ν2, ν3, ν4, ν5, ζ1, ζ2, ζ3, ζ4, ζ5, d, memE, boxE])))
  ((first | refine retA.ret (by rfl) ?_ | refine retA.normal (by rfl) ?_); simp (disch := omega) only [push_cast, ↓reduceIte, reduceCtorEq, Nat.reduceAdd, Nat.reduceMul, Nat.reduceLeDiff, Nat.reduceLT, Nat.reduceSub, Int.reduceNe, Int.reduceEq, Int.reduceLE, Int.reduceLT, Int.reduceToNat])
  exact ⟨Fr.push M _, by rw [decide_eq_false]; exact fun h => h.2.2.2.2.2.2.1 c1⟩
 have d1 : decide (a.hop = 0) = false := decide_eq_false c1
 by_cases c2 : a.hop ≥ 3758096384
 ·have d : decide (a.hop ≥ 3758096384) = true := decide_eq_true c2
  (repeat (first | refine st ?_ | refine σa ?_ | (refine σb ?_; simp (disch := omega) only [push_cast, ↓reduceIte, reduceCtorEq, ν1, ν2, ν3, ν4, ν5, ζ1, ζ2, ζ3, ζ4, ζ5, d1, d, memE, boxE])))
  ((first | refine retA.ret (by rfl) ?_ | refine retA.normal (by rfl) ?_); simp (disch := omega) only [push_cast, ↓reduceIte, reduceCtorEq, Nat.reduceAdd, Nat.reduceMul, Nat.reduceLeDiff, Nat.reduceLT, Nat.reduceSub, Int.reduceNe, Int.reduceEq, Int.reduceLE, Int.reduceLT, Int.reduceToNat])
  exact ⟨Fr.push M _, by rw [decide_eq_false]; exact fun h => by have := h.2.2.2.2.2.2.2.1; omega⟩
 have d2 : decide (a.hop ≥ 3758096384) = false := decide_eq_false c2
 by_cases c3 : a.hasMed = false ∧ a.med ≠ 0
 ·have hm := c3.1
  have dm : decide (a.med = 0) = false := decide_eq_false c3.2
  (repeat (first | refine st ?_ | refine σa ?_ | (refine σb ?_; simp (disch := omega) only [push_cast, ↓reduceIte, reduceCtorEq, ν1, ν2, ν3, ν4, ν5, ζ1, ζ2, ζ3, ζ4, ζ5, d1, d2, hm, dm, Bool.not_true, Bool.not_false, memE, boxE])))
  ((first | refine retA.ret (by rfl) ?_ | refine retA.normal (by rfl) ?_); simp (disch := omega) only [push_cast, ↓reduceIte, reduceCtorEq, Nat.reduceAdd, Nat.reduceMul, Nat.reduceLeDiff, Nat.reduceLT, Nat.reduceSub, Int.reduceNe, Int.reduceEq, Int.reduceLE, Int.reduceLT, Int.reduceToNat])
  exact ⟨Fr.push M _, by rw [decide_eq_false]; exact fun h => c3.2 (h.2.2.2.2.2.2.2.2.1 c3.1)⟩
 have hm : (a.hasMed = true ∧ decide ((0 : Int) = 0) = true) ∨ (a.hasMed = false ∧ decide (a.med = 0) = true) := by
  cases h : a.hasMed with
  | true => exact .inl ⟨rfl, rfl⟩
  | false => exact .inr ⟨rfl, decide_eq_true (by by_cases h0 : a.med = 0; exact h0; exact absurd ⟨h, h0⟩ c3)⟩
 by_cases c4 : a.hasPref = false ∧ a.pref ≠ 0
 ·have hq := c4.1
  have dq : decide (a.pref = 0) = false := decide_eq_false c4.2
  rcases hm with ⟨hm, dm⟩ | ⟨hm, dm⟩
  all_goals
   (repeat (first | refine st ?_ | refine σa ?_ | (refine σb ?_; simp (disch := omega) only [push_cast, ↓reduceIte, reduceCtorEq, ν1, ν2, ν3, ν4, ν5, ζ1, ζ2, ζ3, ζ4, ζ5, d1, d2, hm, dm, hq, dq, Bool.not_true, Bool.not_false, memE, boxE])))
   ((first | refine retA.ret (by rfl) ?_ | refine retA.normal (by rfl) ?_); simp (disch := omega) only [push_cast, ↓reduceIte, reduceCtorEq, Nat.reduceAdd, Nat.reduceMul, Nat.reduceLeDiff, Nat.reduceLT, Nat.reduceSub, Int.reduceNe, Int.reduceEq, Int.reduceLE, Int.reduceLT, Int.reduceToNat])
   exact ⟨Fr.push M _, by rw [decide_eq_false]; exact fun h => c4.2 (h.2.2.2.2.2.2.2.2.2 c4.1)⟩
 have hq : (a.hasPref = true ∧ decide ((0 : Int) = 0) = true) ∨ (a.hasPref = false ∧ decide (a.pref = 0) = true) := by
  cases h : a.hasPref with
  | true => exact .inl ⟨rfl, rfl⟩
  | false => exact .inr ⟨rfl, decide_eq_true (by by_cases h0 : a.pref = 0; exact h0; exact absurd ⟨h, h0⟩ c4)⟩
 have hvr : rightP a ↔ validP a.path a.comms a.origin := by
  constructor
  ·exact fun h => ⟨h.1, h.2.1, h.2.2.1, h.2.2.2.1, h.2.2.2.2.1, h.2.2.2.2.2.1⟩
  ·exact fun h => ⟨h.1, h.2.1, h.2.2.1, h.2.2.2.1, h.2.2.2.2.1, h.2.2.2.2.2, c1, by omega, fun e => by by_cases h0 : a.med = 0; exact h0; exact absurd ⟨e, h0⟩ c3, fun e => by by_cases h0 : a.pref = 0; exact h0; exact absurd ⟨e, h0⟩ c4⟩
 have hdv : decide (rightP a) = decide (validP a.path a.comms a.origin) := by simp [hvr]
 rw [hdv]
 rcases hm with ⟨hm, dm⟩ | ⟨hm, dm⟩ <;> rcases hq with ⟨hq, dq⟩ | ⟨hq, dq⟩
 all_goals
  (repeat (first | refine st ?_ | refine σa ?_ | (refine σb ?_; simp (disch := omega) only [push_cast, ↓reduceIte, reduceCtorEq, ν1, ν2, ν3, ν4, ν5, ζ1, ζ2, ζ3, ζ4, ζ5, d1, d2, hm, dm, hq, dq, Bool.not_true, Bool.not_false, hcp, hcc, buildE, memE, boxE])))
  refine (valid_spec p c a.path a.comms a.origin _ (hp.keep (Fr.push M _) (by simp)) (hc.keep (Fr.push M _) (by simp)) h1 h2).mono ?_
  rintro r M2 ⟨hF2, rfl⟩
  (repeat (first | refine st ?_ | refine σa ?_ | (refine σb ?_; simp (disch := omega) only [push_cast, ↓reduceIte, reduceCtorEq, ν1, ν2, ν3, ν4, ν5, ζ1, ζ2, ζ3, ζ4, ζ5])))
  ((first | refine retA.ret (by rfl) ?_ | refine retA.normal (by rfl) ?_); simp (disch := omega) only [push_cast, ↓reduceIte, reduceCtorEq, Nat.reduceAdd, Nat.reduceMul, Nat.reduceLeDiff, Nat.reduceLT, Nat.reduceSub, Int.reduceNe, Int.reduceEq, Int.reduceLE, Int.reduceLT, Int.reduceToNat])
  exact (Fr.push M _).tr hF2
theorem wput_spec (s lo : Nat) (w : Value) (out : List Int) (k : Int) (v : Value) (ys : List Int) (M : Mem) (hs : At M s (.box [w])) (hw : Own M w 1 (ints .u8 out)) (hsw : s ∉ blkOf w) (hlo : s ≥ lo ∧ ∀ b ∈ blkOf w, b ≥ lo) (hlM : lo ≤ M.length) (hv : Sl M v 1 (ints .u8 ys)) (hsv : ∀ b ∈ blkOf v, b ≠ s ∧ b ∉ blkOf w) (hl : ys.length ≤ 65535) (ho : out.length ≤ 1000000) (hk : flagsP k = 64 ∨ flagsP k = 128 ∨ flagsP k = 192) :
  CallA Try.prog 131 [.pointer (some ⟨s, 0, none⟩), .int .u8 k, v] M fun r M' => ∃ w', At M' s (.box [w']) ∧ Own M' w' 1 (ints .u8 (out ++ oneP (flagsP k) k ys)) ∧ (∀ b ∈ blkOf w', M.length ≤ b) ∧ Fr M M' (s :: blkOf w) := by
 have hsv' := hv.isSl
 have hn := hv.lnI
 have hslt := hs.lt
 (refine CallA.of_body Try.func131 rfl (by rfl) ?_; simp only [Try.ntmps131, List.length_cons, List.length_nil, List.replicate, List.cons_append, List.nil_append, Nat.reduceSub, Nat.reduceAdd])
 (repeat (first | refine st ?_ | refine σa ?_ | (refine σb ?_; simp (disch := omega) only [push_cast, ↓reduceIte, reduceCtorEq, ν1, ν2, ν3, ν4, ν5, ζ1, ζ2, ζ3, ζ4, ζ5])))
 refine (flags_spec k M).mono ?_
 rintro r M1 ⟨rfl, rfl⟩
 generalize hfl : flagsP k = fl at *
 (repeat (first | refine st ?_ | refine σa ?_ | (refine σb ?_; simp (disch := omega) only [push_cast, ↓reduceIte, reduceCtorEq, ν1, ν2, ν3, ν4, ν5, ζ1, ζ2, ζ3, ζ4, ζ5, hsv', hn])))
 obtain ⟨pre, hpre⟩ : ∃ pre : List Int, pre = if ys.length > 255 then [fl + 16, k, (ys.length : Int) / 256] else [fl, k] := ⟨_, rfl⟩
 have hprel : pre.length ≤ 3 := by rw [hpre]; split <;> simp
 have hvlt := hv.blks
 have hwlt := hw.sl.blks
 refine AW.joinF [12, 13, 14, 15, 16, 17, 18, 19, 20, 21, 22, 23, 24, 25, 26, 27, 28, 29, 30, 31, 32, 33, 34, 35, 36, 37, 38] (fun g M' => ∃ w', At M' s (.box [w']) ∧ Own M' w' 1 (ints .u8 (out ++ pre)) ∧ (∀ b ∈ blkOf w', M1.length ≤ b) ∧ Fr M1 M' (s :: blkOf w)) ?_ ?_
 ·have key : ∀ (n : Nat) (M2 : Mem) (v1 : Value), New (M1 ++ [.row true 1 (ints .u8 pre)]) M2 v1 1 (ints .u8 (out ++ pre)) → Fr (M1 ++ [.row true 1 (ints .u8 pre)]) M2 (blkOf w) → At M2 s (.box [w]) ∧ Value.oneCell' v1 = true ∧ At (M2.set s (.box [v1])) s (.box [v1]) ∧ Own (M2.set s (.box [v1])) v1 1 (ints .u8 (out ++ pre)) ∧ (∀ b ∈ blkOf v1, M1.length ≤ b) ∧ Fr M1 (M2.set s (.box [v1])) (s :: blkOf w) := by
   intro n M2 v1 hN2 hF2
   have hs2 := (hs.keep (Fr.push M1 (.row true 1 (ints .u8 pre))) (by simp)).keep hF2 hsw
   have hb : ∀ b ∈ blkOf v1, M1.length < b := fun b hb => by have := hN2.blk b hb; simp at this; omega
   refine ⟨hs2, isSl_one hN2.1.sl.isSl, hs2.set _, hN2.1.keep (Fr.set M2 s _) (fun b h hx => by have := hb b h; simp at hx; omega), fun b h => Nat.le_of_lt (hb b h), ?_⟩
   refine ((((Fr.push M1 _).trans hF2).trans (Fr.set M2 s _))).cut ?_
   intro x hx _
   simp at hx ⊢
   rcases hx with hx | hx
   ·exact .inr hx
   ·exact .inl hx
  by_cases c : ys.length > 255
  ·have d : decide ((ys.length : Int) > 255) = true := decide_eq_true (by omega)
   have o16 := or16 (x := fl) (by omega)
   have q1 : ((ys.length : Int) / 256) % 256 = (ys.length : Int) / 256 := by omega
   rw [if_pos c] at hpre
   (repeat (first | refine st ?_ | refine σa ?_ | (refine σb ?_; simp (disch := omega) only [push_cast, ↓reduceIte, reduceCtorEq, ν1, ν2, ν3, ν4, ν5, ζ1, ζ2, ζ3, ζ4, ζ5, hsv', hn, d, hs.ld, hs.get, o16, e8i, fdiv_in, wm_u8, q1])))
   have r1 := New.lit M1 3 pre (by rw [hpre]; rfl) (by decide)
   rw [← show ints .u8 pre = [.int .u8 (fl + 16), .int .u8 k, .int .u8 ((ys.length : Int) / 256)] by rw [hpre]; rfl]
   refine appK.ints (P := Try.prog) (e := 5) (bt := 1) (z := .int .u8 0) (by kernel_rfl) (by kernel_rfl) (by kernel_rfl) (by kernel_rfl) (by decide) (hw.keep (Fr.push M1 _) (by simp)) r1.sl (by omega) ?_
   intro v1 M2 hN2 hF2
   obtain ⟨k1, k2, k3⟩ := key 0 M2 v1 hN2 hF2
   simp only [Value.oneCell'] at k2
   have hcl := isSl_cl hN2.1.sl.isSl
   (repeat (first | refine st ?_ | refine σa ?_ | (refine σb ?_; simp (disch := omega) only [push_cast, ↓reduceIte, reduceCtorEq, ν1, ν2, ν3, ν4, ν5, ζ1, ζ2, ζ3, ζ4, ζ5, k1.get, k2, hcl, buildE, boxE])))
   exact ⟨rfl, v1, k3⟩
  ·have d : decide ((ys.length : Int) > 255) = false := decide_eq_false (by omega)
   rw [if_neg c] at hpre
   (repeat (first | refine st ?_ | refine σa ?_ | (refine σb ?_; simp (disch := omega) only [push_cast, ↓reduceIte, reduceCtorEq, ν1, ν2, ν3, ν4, ν5, ζ1, ζ2, ζ3, ζ4, ζ5, hsv', hn, d, hs.ld, hs.get])))
   have r1 := New.lit M1 2 pre (by rw [hpre]; rfl) (by decide)
   rw [← show ints .u8 pre = [.int .u8 fl, .int .u8 k] by rw [hpre]; rfl]
   refine appK.ints (P := Try.prog) (e := 5) (bt := 1) (z := .int .u8 0) (by kernel_rfl) (by kernel_rfl) (by kernel_rfl) (by kernel_rfl) (by decide) (hw.keep (Fr.push M1 _) (by simp)) r1.sl (by omega) ?_
   intro v1 M2 hN2 hF2
   obtain ⟨k1, k2, k3⟩ := key 0 M2 v1 hN2 hF2
   simp only [Value.oneCell'] at k2
   have hcl := isSl_cl hN2.1.sl.isSl
   (repeat (first | refine st ?_ | refine σa ?_ | (refine σb ?_; simp (disch := omega) only [push_cast, ↓reduceIte, reduceCtorEq, ν1, ν2, ν3, ν4, ν5, ζ1, ζ2, ζ3, ζ4, ζ5, k1.get, k2, hcl, buildE, boxE])))
   exact ⟨rfl, v1, k3⟩
 ·rintro g M2 ⟨w1, a1, a2, a3, a4⟩
  have hv2 := hv.keep a4 (fun b hb hx => by rcases List.mem_cons.1 hx with e | hx; exact (hsv b hb).1 e; exact (hsv b hb).2 hx)
  have hM := a4.1
  (repeat (first | refine st ?_ | refine σa ?_ | (refine σb ?_; simp (disch := omega) only [push_cast, ↓reduceIte, reduceCtorEq, ν1, ν2, ν3, ν4, ν5, ζ1, ζ2, ζ3, ζ4, ζ5, hsv', hn, a1.ld, wm_u8])))
  have r1 := New.lit M2 1 [(ys.length : Int) % 256] rfl (by decide)
  have hsw1 : s ∉ blkOf w1 := fun h => by have := a3 s h; omega
  refine appK.ints (P := Try.prog) (e := 5) (bt := 1) (z := .int .u8 0) (by kernel_rfl) (by kernel_rfl) (by kernel_rfl) (by kernel_rfl) (by decide) (a2.keep (Fr.push M2 _) (by simp)) r1.sl (by simp; omega) ?_
  intro w2 M3 hN3 hF3
  have a13 := (a1.keep (Fr.push M2 _) (by simp)).keep hF3 hsw1
  have hv3 := (hv2.keep (Fr.push M2 (.row true 1 (ints .u8 [(ys.length : Int) % 256]))) (by simp)).keep hF3 (fun b hb hx => by have := a3 b hx; have := hvlt b hb; omega)
  have hb2 : ∀ b ∈ blkOf w2, M2.length < b := fun b hb => by have := hN3.blk b hb; simp at this; omega
  (repeat (first | refine st ?_ | refine σa ?_ | (refine σb ?_; simp (disch := omega) only [push_cast, ↓reduceIte, reduceCtorEq, ν1, ν2, ν3, ν4, ν5, ζ1, ζ2, ζ3, ζ4, ζ5])))
  refine appK.ints (P := Try.prog) (e := 5) (bt := 1) (z := .int .u8 0) (by kernel_rfl) (by kernel_rfl) (by kernel_rfl) (by kernel_rfl) (by decide) hN3.1 hv3 (by simp; omega) ?_
  intro w3 M4 hN4 hF4
  have hM3 := hF3.1
  have hM4 := hF4.1
  simp at hM3
  have a14 := a13.keep hF4 (fun h => by have := hb2 s h; omega)
  have hb3 : ∀ b ∈ blkOf w3, M2.length < b := fun b hb => by have := hN4.blk b hb; omega
  have one3 := isSl_one hN4.1.sl.isSl
  simp only [Value.oneCell'] at one3
  have hcl := isSl_cl hN4.1.sl.isSl
  (repeat (first | refine st ?_ | refine σa ?_ | (refine σb ?_; simp (disch := omega) only [push_cast, ↓reduceIte, reduceCtorEq, ν1, ν2, ν3, ν4, ν5, ζ1, ζ2, ζ3, ζ4, ζ5, a14.get, one3, hcl, buildE, boxE])))
  ((first | refine retA.ret (by rfl) ?_ | refine retA.normal (by rfl) ?_); simp (disch := omega) only [push_cast, ↓reduceIte, reduceCtorEq, Nat.reduceAdd, Nat.reduceMul, Nat.reduceLeDiff, Nat.reduceLT, Nat.reduceSub, Int.reduceNe, Int.reduceEq, Int.reduceLE, Int.reduceLT, Int.reduceToNat])
  refine ⟨w3, a14.set _, ?_, fun b hb => by have := hb3 b hb; omega, ?_⟩
  ·have e : out ++ oneP fl k ys = out ++ pre ++ [(ys.length : Int) % 256] ++ ys := by
    rw [hpre]
    unfold oneP
    split
    ·simp
    ·have : (ys.length : Int) % 256 = ys.length := by omega
     rw [this]; simp
   rw [e]
   exact hN4.1.keep (Fr.set M4 s _) (fun b h hx => by have := hb3 b h; simp at hx; omega)
  ·refine (((((a4.trans (Fr.push M2 _)).trans hF3).trans hF4)).trans (Fr.set M4 s _)).cut ?_
   intro x hx hlt
   simp at hx ⊢
   rcases hx with hx | hx | hx | hx | hx
   ·exact .inl hx
   ·exact .inr hx
   ·have := a3 x hx; omega
   ·have := hb2 x hx; omega
   ·exact .inl hx
end Go.Proofs.Ytbdejnnbpdgjlaa.Ax
