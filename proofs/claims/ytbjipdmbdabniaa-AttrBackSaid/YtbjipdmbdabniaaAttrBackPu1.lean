/- Contracts of functions over the abstract machine. No conditions: lemmas alone. -/
import Derived.Test.YtbjipdmbdabniaaAttrBackLibD
import Derived.Test.YtbjipdmbdabniaaAttrBackPt
import Derived.Test.YtbjipdmbdabniaaAttrBackSoO
import Derived.Test.YtbjipdmbdabniaaAttrBackLy
namespace Go.Proofs.Ytbjipdmbdabniaa.Ax
open Go Go.RowKit
set_option linter.unusedVariables false
set_option linter.unusedSimpArgs false
set_option maxRecDepth 100000
set_option maxHeartbeats 20000000
attribute [local irreducible] thenA blockA scopeA retA AL AW AD ADL AH clrK CallA apure aload bload appK ptrK fnK ares szOk planOk okOps
theorem rise_of {l : List Int} (h : ∀ i, i + 1 < l.length → l.getD i 0 < l.getD (i + 1) 0) : l.Pairwise (· < ·) := by
  induction l with
  | nil => exact .nil
  | cons x l ih =>
    have ht := ih fun i hi => by have := h (i + 1) (by simp; omega); simpa using this
    refine List.pairwise_cons.2 ⟨fun y hy => ?_, ht⟩
    cases l with
    | nil => cases hy
    | cons z l =>
      have h0 := h 0 (by simp)
      simp at h0
      rcases List.mem_cons.1 hy with rfl | hy
      · exact h0
      · have := (List.pairwise_cons.1 ht).1 y hy; omega
theorem rise_at {l : List Int} (h : l.Pairwise (· < ·)) {i j : Nat} (hij : i < j) (hj : j < l.length) : l.getD i 0 < l.getD j 0 := by
  rw [getD_lt hj, getD_lt (by omega)]
  exact List.pairwise_iff_getElem.1 h i j (by omega) hj hij
theorem mask_spec (M : Mem) : CallA Try.prog 41 [.agg ⟨[.int .u32 0, .int .i64 0]⟩] M fun r M' => Fr M M' [] ∧ r = .agg ⟨[.int .u32 0, .int .i64 0]⟩ := by
  have z : (if (0 : Int) > 0 then (0 : Int) else 0) = 0 := rfl
  (refine CallA.of_body Try.func41 rfl (by rfl) ?_; simp only [Try.ntmps41, List.length_cons, List.length_nil, List.replicate, List.cons_append, List.nil_append, Nat.reduceSub, Nat.reduceAdd])
  (repeat (first | refine st ?_ | (refine And.intro (by omega) ?_) | ((first | refine AL.ld rfl ?_ | refine AL.bx rfl ?_ | refine AL.al ?_ | refine AL.st rfl rfl ?_ | refine AL.pu rfl ?_); simp (disch := omega) only [push_cast, ↓reduceIte, reduceCtorEq, Nat.reduceAdd, Nat.reduceMul, Nat.reduceLeDiff, Nat.reduceLT, Nat.reduceSub, Int.reduceNe, Int.reduceEq, Int.reduceLE, Int.reduceLT, Int.reduceToNat, z, Int.zero_fdiv, Int.zero_mul, w_i64, w_u64, w_u32, buildE, memE, boxE])))
  ((first | refine retA.ret (by rfl) ?_ | refine retA.normal (by rfl) ?_); simp (disch := omega) only [push_cast, ↓reduceIte, reduceCtorEq, Nat.reduceAdd, Nat.reduceMul, Nat.reduceLeDiff, Nat.reduceLT, Nat.reduceSub, Int.reduceNe, Int.reduceEq, Int.reduceLE, Int.reduceLT, Int.reduceToNat, memE, boxE])
  exact Fr.push2 _ _ _
def validP (p c : List Int) (o : Int) : Prop := c.Pairwise (· < ·) ∧ p.length ≤ 255 ∧ c.length ≤ 255 ∧ 0 ∉ p ∧ 0 ≤ o ∧ o ≤ 2
instance (p c : List Int) (o : Int) : Decidable (validP p c o) := by unfold validP; infer_instance
theorem valid_spec (p c : Value) (ps cs : List Int) (o : Int) (M : Mem) (hp : Sl M p 1 (ints .u32 ps)) (hc : Sl M c 1 (ints .u32 cs)) (h1 : ps.length ≤ 1000000000) (h2 : cs.length ≤ 1000000000) :
    CallA Try.prog 30 [.agg ⟨[.int .u32 0, .int .i64 0, p, c, .int .u32 0, .int .u32 0, .int .i64 o, .int .u32 0]⟩] M fun r M' => Fr M M' [] ∧ r = .bool (decide (validP ps cs o)) := by
  obtain ⟨M0, hM0⟩ : ∃ M0, M0 = M ++ [Blk.box [.int .u32 0, .int .i64 0, p, c, .int .u32 0, .int .u32 0, .int .i64 o, .int .u32 0]] := ⟨_, rfl⟩
  have hF : Fr M M0 [] := by rw [hM0]; exact Fr.push _ _
  have l1 : ∀ ty j, aload Try.prog ty M0 M.length j = bload Try.prog ty [.int .u32 0, .int .i64 0, p, c, .int .u32 0, .int .u32 0, .int .i64 o, .int .u32 0] j := fun ty j => by rw [hM0]; exact ld_one _ _ _ _ _
  have hp0 := hp.keep hF (by simp)
  have hc0 := hc.keep hF (by simp)
  have hsc := hc.isSl
  have hnc := hc.lnI
  have hsp := hp.isSl
  have hnp := hp.lnI
  (refine CallA.of_body Try.func30 rfl (by rfl) ?_; simp only [Try.ntmps30, List.length_cons, List.length_nil, List.replicate, List.cons_append, List.nil_append, Nat.reduceSub, Nat.reduceAdd])
  (repeat (first | refine st ?_ | refine ADL.hd rfl ?_ | refine blockA.here ?_ | refine blockA.exit rfl ?_ | (refine And.intro (by omega) ?_) | (refine AW.condT rfl rfl (by first | rfl | assumption) ?_) | (refine AW.condF rfl rfl (by first | rfl | assumption) ?_) | (refine AL.guT rfl (by first | rfl | assumption) ?_) | refine AW.dr (id := 4) (by rfl) [0, 1, 2, 3, 4, 5, 6, 7, 8, 9, 10, 11] (by kernel_rfl) (by kernel_rfl) ?_ | refine AW.dr (id := 6) (by rfl) [0, 1, 2, 3, 4, 5, 6] (by kernel_rfl) (by kernel_rfl) ?_ | ((first | refine AL.ld rfl ?_ | refine AL.bx rfl ?_ | refine AL.ca rfl ?_ | refine AL.pu rfl ?_ | refine AL.guF rfl (by first | rfl | assumption) ?_ | refine AL.skip rfl ?_ | refine AH.ld rfl ?_ | refine AH.bx rfl ?_ | refine AH.ca (dst := some 28) rfl ?_ | refine AH.pu rfl rfl ?_ | refine AH.guF rfl (by first | rfl | assumption) ?_ | refine AH.sk rfl ?_ | refine AH.guLd rfl (by first | rfl | assumption) rfl ?_ | refine AH.guCa rfl (by first | rfl | assumption) rfl ?_ | refine AH.guPu rfl rfl (by first | rfl | assumption) rfl ?_); simp (disch := omega) only [push_cast, ↓reduceIte, reduceCtorEq, Nat.reduceAdd, Nat.reduceMul, Nat.reduceLeDiff, Nat.reduceLT, Nat.reduceSub, Int.reduceNe, Int.reduceEq, Int.reduceLE, Int.reduceLT, Int.reduceToNat, hsc, hnc])))
  rw [← hM0]
  refine AW.loopF [2, 3, 4, 5, 6, 7, 8, 9, 10, 11, 12, 13, 14, 15, 16, 17, 18, 19, 20, 21, 22] (fun m g M' => ∃ i : Nat, g 3 = .int .i64 i ∧ i + m = cs.length + 1 ∧ 1 ≤ i ∧ M' = M0 ∧ ∀ q, q + 1 < i → q + 1 < cs.length → cs.getD q 0 < cs.getD (q + 1) 0) cs.length ?_ ?_
  · exact ⟨1, rfl, by omega, by omega, rfl, fun q h => by omega⟩
  rintro m g M1 ⟨i, h3, hi, hi1, rfl, he⟩
  simp (disch := omega) only [push_cast, ↓reduceIte, reduceCtorEq, Nat.reduceAdd, Nat.reduceMul, Nat.reduceLeDiff, Nat.reduceLT, Nat.reduceSub, Int.reduceNe, Int.reduceEq, Int.reduceLE, Int.reduceLT, Int.reduceToNat, h3]
  (repeat (first | refine st ?_ | refine ADL.hd rfl ?_ | refine blockA.here ?_ | refine blockA.exit rfl ?_ | (refine And.intro (by omega) ?_) | (refine AW.condT rfl rfl (by first | rfl | assumption) ?_) | (refine AW.condF rfl rfl (by first | rfl | assumption) ?_) | (refine AL.guT rfl (by first | rfl | assumption) ?_) | refine AW.dr (id := 4) (by rfl) [0, 1, 2, 3, 4, 5, 6, 7, 8, 9, 10, 11] (by kernel_rfl) (by kernel_rfl) ?_ | refine AW.dr (id := 6) (by rfl) [0, 1, 2, 3, 4, 5, 6] (by kernel_rfl) (by kernel_rfl) ?_ | ((first | refine AL.ld rfl ?_ | refine AL.bx rfl ?_ | refine AL.ca rfl ?_ | refine AL.pu rfl ?_ | refine AL.guF rfl (by first | rfl | assumption) ?_ | refine AL.skip rfl ?_ | refine AH.ld rfl ?_ | refine AH.bx rfl ?_ | refine AH.ca (dst := some 28) rfl ?_ | refine AH.pu rfl rfl ?_ | refine AH.guF rfl (by first | rfl | assumption) ?_ | refine AH.sk rfl ?_ | refine AH.guLd rfl (by first | rfl | assumption) rfl ?_ | refine AH.guCa rfl (by first | rfl | assumption) rfl ?_ | refine AH.guPu rfl rfl (by first | rfl | assumption) rfl ?_); simp (disch := omega) only [push_cast, ↓reduceIte, reduceCtorEq, Nat.reduceAdd, Nat.reduceMul, Nat.reduceLeDiff, Nat.reduceLT, Nat.reduceSub, Int.reduceNe, Int.reduceEq, Int.reduceLE, Int.reduceLT, Int.reduceToNat, l1, hsc, hnc])))
  ((first | refine AL.gu rfl (fun hlt => ?_) (fun hlt => ?_) | refine AW.condS rfl rfl (fun hlt => ?_) (fun hlt => ?_)) <;> (try (have hlt' := hlt; simp only [Bool.not_eq_true', Bool.not_eq_false', Bool.not_true, Bool.not_false, decide_eq_true_eq, decide_eq_false_iff_not, Classical.not_not, Int.not_lt, Int.not_le, gt_iff_lt, ge_iff_le, beq_iff_eq] at hlt')))
  · have e1 := hc0.ldN (P := Try.prog) (ty := 25) (i := i) (by kernel_rfl) (by omega)
    have e2 := hc0.ldN (P := Try.prog) (ty := 25) (i := i - 1) (by kernel_rfl) (by omega)
    have t1 : ((i : Int) - 1).toNat = i - 1 := by omega
    by_cases c1 : cs.getD i 0 ≤ cs.getD (i - 1) 0
    · have d1 : decide (cs.getD i 0 ≤ cs.getD (i - 1) 0) = true := decide_eq_true c1
      (repeat (first | refine st ?_ | refine ADL.hd rfl ?_ | refine blockA.here ?_ | refine blockA.exit rfl ?_ | (refine And.intro (by omega) ?_) | (refine AW.condT rfl rfl (by first | rfl | assumption) ?_) | (refine AW.condF rfl rfl (by first | rfl | assumption) ?_) | (refine AL.guT rfl (by first | rfl | assumption) ?_) | refine AW.dr (id := 4) (by rfl) [0, 1, 2, 3, 4, 5, 6, 7, 8, 9, 10, 11] (by kernel_rfl) (by kernel_rfl) ?_ | refine AW.dr (id := 6) (by rfl) [0, 1, 2, 3, 4, 5, 6] (by kernel_rfl) (by kernel_rfl) ?_ | ((first | refine AL.ld rfl ?_ | refine AL.bx rfl ?_ | refine AL.ca rfl ?_ | refine AL.pu rfl ?_ | refine AL.guF rfl (by first | rfl | assumption) ?_ | refine AL.skip rfl ?_ | refine AH.ld rfl ?_ | refine AH.bx rfl ?_ | refine AH.ca (dst := some 28) rfl ?_ | refine AH.pu rfl rfl ?_ | refine AH.guF rfl (by first | rfl | assumption) ?_ | refine AH.sk rfl ?_ | refine AH.guLd rfl (by first | rfl | assumption) rfl ?_ | refine AH.guCa rfl (by first | rfl | assumption) rfl ?_ | refine AH.guPu rfl rfl (by first | rfl | assumption) rfl ?_); simp (disch := omega) only [push_cast, ↓reduceIte, reduceCtorEq, Nat.reduceAdd, Nat.reduceMul, Nat.reduceLeDiff, Nat.reduceLT, Nat.reduceSub, Int.reduceNe, Int.reduceEq, Int.reduceLE, Int.reduceLT, Int.reduceToNat, l1, hsc, hnc, e1, e2, d1, t1, w_i64, Int.toNat_natCast])))
      ((first | refine retA.ret (by rfl) ?_ | refine retA.normal (by rfl) ?_); simp (disch := omega) only [push_cast, ↓reduceIte, reduceCtorEq, Nat.reduceAdd, Nat.reduceMul, Nat.reduceLeDiff, Nat.reduceLT, Nat.reduceSub, Int.reduceNe, Int.reduceEq, Int.reduceLE, Int.reduceLT, Int.reduceToNat])
      refine ⟨hF, ?_⟩
      have : ¬ validP ps cs o := fun h => by have := rise_at h.1 (i := i - 1) (j := i) (by omega) (by omega); omega
      simp [this]
    · have d1 : decide (cs.getD i 0 ≤ cs.getD (i - 1) 0) = false := decide_eq_false c1
      (repeat (first | refine st ?_ | refine ADL.hd rfl ?_ | refine blockA.here ?_ | refine blockA.exit rfl ?_ | (refine And.intro (by omega) ?_) | (refine AW.condT rfl rfl (by first | rfl | assumption) ?_) | (refine AW.condF rfl rfl (by first | rfl | assumption) ?_) | (refine AL.guT rfl (by first | rfl | assumption) ?_) | refine AW.dr (id := 4) (by rfl) [0, 1, 2, 3, 4, 5, 6, 7, 8, 9, 10, 11] (by kernel_rfl) (by kernel_rfl) ?_ | refine AW.dr (id := 6) (by rfl) [0, 1, 2, 3, 4, 5, 6] (by kernel_rfl) (by kernel_rfl) ?_ | ((first | refine AL.ld rfl ?_ | refine AL.bx rfl ?_ | refine AL.ca rfl ?_ | refine AL.pu rfl ?_ | refine AL.guF rfl (by first | rfl | assumption) ?_ | refine AL.skip rfl ?_ | refine AH.ld rfl ?_ | refine AH.bx rfl ?_ | refine AH.ca (dst := some 28) rfl ?_ | refine AH.pu rfl rfl ?_ | refine AH.guF rfl (by first | rfl | assumption) ?_ | refine AH.sk rfl ?_ | refine AH.guLd rfl (by first | rfl | assumption) rfl ?_ | refine AH.guCa rfl (by first | rfl | assumption) rfl ?_ | refine AH.guPu rfl rfl (by first | rfl | assumption) rfl ?_); simp (disch := omega) only [push_cast, ↓reduceIte, reduceCtorEq, Nat.reduceAdd, Nat.reduceMul, Nat.reduceLeDiff, Nat.reduceLT, Nat.reduceSub, Int.reduceNe, Int.reduceEq, Int.reduceLE, Int.reduceLT, Int.reduceToNat, l1, hsc, hnc, e1, e2, d1, t1, w_i64, Int.toNat_natCast])))
      refine ⟨rfl, m - 1, by omega, i + 1, rfl, by omega, by omega, rfl, fun q hq hq2 => ?_⟩
      by_cases e : q + 1 = i
      · subst e
        have e2 : q + 1 - 1 = q := by omega
        rw [e2] at c1; omega
      · exact he q (by omega) hq2
  · have hris : cs.Pairwise (· < ·) := rise_of fun q hq => he q (by omega) hq
    (repeat (first | refine st ?_ | refine ADL.hd rfl ?_ | refine blockA.here ?_ | refine blockA.exit rfl ?_ | (refine And.intro (by omega) ?_) | (refine AW.condT rfl rfl (by first | rfl | assumption) ?_) | (refine AW.condF rfl rfl (by first | rfl | assumption) ?_) | (refine AL.guT rfl (by first | rfl | assumption) ?_) | refine AW.dr (id := 4) (by rfl) [0, 1, 2, 3, 4, 5, 6, 7, 8, 9, 10, 11] (by kernel_rfl) (by kernel_rfl) ?_ | refine AW.dr (id := 6) (by rfl) [0, 1, 2, 3, 4, 5, 6] (by kernel_rfl) (by kernel_rfl) ?_ | ((first | refine AL.ld rfl ?_ | refine AL.bx rfl ?_ | refine AL.ca rfl ?_ | refine AL.pu rfl ?_ | refine AL.guF rfl (by first | rfl | assumption) ?_ | refine AL.skip rfl ?_ | refine AH.ld rfl ?_ | refine AH.bx rfl ?_ | refine AH.ca (dst := some 28) rfl ?_ | refine AH.pu rfl rfl ?_ | refine AH.guF rfl (by first | rfl | assumption) ?_ | refine AH.sk rfl ?_ | refine AH.guLd rfl (by first | rfl | assumption) rfl ?_ | refine AH.guCa rfl (by first | rfl | assumption) rfl ?_ | refine AH.guPu rfl rfl (by first | rfl | assumption) rfl ?_); simp (disch := omega) only [push_cast, ↓reduceIte, reduceCtorEq, Nat.reduceAdd, Nat.reduceMul, Nat.reduceLeDiff, Nat.reduceLT, Nat.reduceSub, Int.reduceNe, Int.reduceEq, Int.reduceLE, Int.reduceLT, Int.reduceToNat, l1, buildE])))
    refine (mask_spec _).mono ?_
    rintro r M2 ⟨hF2, rfl⟩
    refine ⟨hF2, ?_⟩
    refine ADL.hd rfl ?_
    refine AH.neS (by kernel_rfl) rfl rfl rfl ⟨true, by kernel_rfl, ?_⟩
    simp (disch := omega) only [push_cast, ↓reduceIte, reduceCtorEq, Nat.reduceAdd, Nat.reduceMul, Nat.reduceLeDiff, Nat.reduceLT, Nat.reduceSub, Int.reduceNe, Int.reduceEq, Int.reduceLE, Int.reduceLT, Int.reduceToNat]
    have l2 : ∀ ty j, aload Try.prog ty M2 M.length j = bload Try.prog ty [.int .u32 0, .int .i64 0, p, c, .int .u32 0, .int .u32 0, .int .i64 o, .int .u32 0] j := fun ty j => by
      have a : At M1 M.length (.box [.int .u32 0, .int .i64 0, p, c, .int .u32 0, .int .u32 0, .int .i64 o, .int .u32 0]) := by rw [hM0]; exact At.push _ _
      exact (a.keep hF2 (by simp)).ld
    have hFF := hF.tr hF2
    by_cases c2 : ps.length > 255
    · have d2 : decide ((ps.length : Int) > 255) = true := decide_eq_true (by omega)
      (repeat (first | refine st ?_ | refine ADL.hd rfl ?_ | refine blockA.here ?_ | refine blockA.exit rfl ?_ | (refine And.intro (by omega) ?_) | (refine AW.condT rfl rfl (by first | rfl | assumption) ?_) | (refine AW.condF rfl rfl (by first | rfl | assumption) ?_) | (refine AL.guT rfl (by first | rfl | assumption) ?_) | refine AW.dr (id := 4) (by rfl) [0, 1, 2, 3, 4, 5, 6, 7, 8, 9, 10, 11] (by kernel_rfl) (by kernel_rfl) ?_ | refine AW.dr (id := 6) (by rfl) [0, 1, 2, 3, 4, 5, 6] (by kernel_rfl) (by kernel_rfl) ?_ | ((first | refine AL.ld rfl ?_ | refine AL.bx rfl ?_ | refine AL.ca rfl ?_ | refine AL.pu rfl ?_ | refine AL.guF rfl (by first | rfl | assumption) ?_ | refine AL.skip rfl ?_ | refine AH.ld rfl ?_ | refine AH.bx rfl ?_ | refine AH.ca (dst := some 28) rfl ?_ | refine AH.pu rfl rfl ?_ | refine AH.guF rfl (by first | rfl | assumption) ?_ | refine AH.sk rfl ?_ | refine AH.guLd rfl (by first | rfl | assumption) rfl ?_ | refine AH.guCa rfl (by first | rfl | assumption) rfl ?_ | refine AH.guPu rfl rfl (by first | rfl | assumption) rfl ?_); simp (disch := omega) only [push_cast, ↓reduceIte, reduceCtorEq, Nat.reduceAdd, Nat.reduceMul, Nat.reduceLeDiff, Nat.reduceLT, Nat.reduceSub, Int.reduceNe, Int.reduceEq, Int.reduceLE, Int.reduceLT, Int.reduceToNat, l2, hsp, hnp, d2, Bool.not_true])))
      ((first | refine retA.ret (by rfl) ?_ | refine retA.normal (by rfl) ?_); simp (disch := omega) only [push_cast, ↓reduceIte, reduceCtorEq, Nat.reduceAdd, Nat.reduceMul, Nat.reduceLeDiff, Nat.reduceLT, Nat.reduceSub, Int.reduceNe, Int.reduceEq, Int.reduceLE, Int.reduceLT, Int.reduceToNat])
      have : ¬ validP ps cs o := fun h => by have := h.2.1; omega
      exact ⟨hFF, by simp [this]⟩
    have d2 : decide ((ps.length : Int) > 255) = false := decide_eq_false (by omega)
    by_cases c3 : cs.length > 255
    · have d3 : decide ((cs.length : Int) > 255) = true := decide_eq_true (by omega)
      (repeat (first | refine st ?_ | refine ADL.hd rfl ?_ | refine blockA.here ?_ | refine blockA.exit rfl ?_ | (refine And.intro (by omega) ?_) | (refine AW.condT rfl rfl (by first | rfl | assumption) ?_) | (refine AW.condF rfl rfl (by first | rfl | assumption) ?_) | (refine AL.guT rfl (by first | rfl | assumption) ?_) | refine AW.dr (id := 4) (by rfl) [0, 1, 2, 3, 4, 5, 6, 7, 8, 9, 10, 11] (by kernel_rfl) (by kernel_rfl) ?_ | refine AW.dr (id := 6) (by rfl) [0, 1, 2, 3, 4, 5, 6] (by kernel_rfl) (by kernel_rfl) ?_ | ((first | refine AL.ld rfl ?_ | refine AL.bx rfl ?_ | refine AL.ca rfl ?_ | refine AL.pu rfl ?_ | refine AL.guF rfl (by first | rfl | assumption) ?_ | refine AL.skip rfl ?_ | refine AH.ld rfl ?_ | refine AH.bx rfl ?_ | refine AH.ca (dst := some 28) rfl ?_ | refine AH.pu rfl rfl ?_ | refine AH.guF rfl (by first | rfl | assumption) ?_ | refine AH.sk rfl ?_ | refine AH.guLd rfl (by first | rfl | assumption) rfl ?_ | refine AH.guCa rfl (by first | rfl | assumption) rfl ?_ | refine AH.guPu rfl rfl (by first | rfl | assumption) rfl ?_); simp (disch := omega) only [push_cast, ↓reduceIte, reduceCtorEq, Nat.reduceAdd, Nat.reduceMul, Nat.reduceLeDiff, Nat.reduceLT, Nat.reduceSub, Int.reduceNe, Int.reduceEq, Int.reduceLE, Int.reduceLT, Int.reduceToNat, l2, hsp, hnp, hsc, hnc, d2, d3, Bool.not_true])))
      ((first | refine retA.ret (by rfl) ?_ | refine retA.normal (by rfl) ?_); simp (disch := omega) only [push_cast, ↓reduceIte, reduceCtorEq, Nat.reduceAdd, Nat.reduceMul, Nat.reduceLeDiff, Nat.reduceLT, Nat.reduceSub, Int.reduceNe, Int.reduceEq, Int.reduceLE, Int.reduceLT, Int.reduceToNat])
      have : ¬ validP ps cs o := fun h => by have := h.2.2.1; omega
      exact ⟨hFF, by simp [this]⟩
    have d3 : decide ((cs.length : Int) > 255) = false := decide_eq_false (by omega)
    (repeat (first | refine st ?_ | refine ADL.hd rfl ?_ | refine blockA.here ?_ | refine blockA.exit rfl ?_ | (refine And.intro (by omega) ?_) | (refine AW.condT rfl rfl (by first | rfl | assumption) ?_) | (refine AW.condF rfl rfl (by first | rfl | assumption) ?_) | (refine AL.guT rfl (by first | rfl | assumption) ?_) | refine AW.dr (id := 4) (by rfl) [0, 1, 2, 3, 4, 5, 6, 7, 8, 9, 10, 11] (by kernel_rfl) (by kernel_rfl) ?_ | refine AW.dr (id := 6) (by rfl) [0, 1, 2, 3, 4, 5, 6] (by kernel_rfl) (by kernel_rfl) ?_ | ((first | refine AL.ld rfl ?_ | refine AL.bx rfl ?_ | refine AL.ca rfl ?_ | refine AL.pu rfl ?_ | refine AL.guF rfl (by first | rfl | assumption) ?_ | refine AL.skip rfl ?_ | refine AH.ld rfl ?_ | refine AH.bx rfl ?_ | refine AH.ca (dst := some 28) rfl ?_ | refine AH.pu rfl rfl ?_ | refine AH.guF rfl (by first | rfl | assumption) ?_ | refine AH.sk rfl ?_ | refine AH.guLd rfl (by first | rfl | assumption) rfl ?_ | refine AH.guCa rfl (by first | rfl | assumption) rfl ?_ | refine AH.guPu rfl rfl (by first | rfl | assumption) rfl ?_); simp (disch := omega) only [push_cast, ↓reduceIte, reduceCtorEq, Nat.reduceAdd, Nat.reduceMul, Nat.reduceLeDiff, Nat.reduceLT, Nat.reduceSub, Int.reduceNe, Int.reduceEq, Int.reduceLE, Int.reduceLT, Int.reduceToNat, l2, hsp, hnp, hsc, hnc, d2, d3, Bool.not_true])))
    refine (has_spec p ps 0 M2 (hp.keep hFF (by simp)) h1).mono ?_
    rintro r M3 ⟨rfl, rfl⟩
    by_cases c4 : (0 : Int) ∈ ps
    · have d4 : decide ((0 : Int) ∈ ps) = true := decide_eq_true c4
      (repeat (first | refine st ?_ | refine ADL.hd rfl ?_ | refine blockA.here ?_ | refine blockA.exit rfl ?_ | (refine And.intro (by omega) ?_) | (refine AW.condT rfl rfl (by first | rfl | assumption) ?_) | (refine AW.condF rfl rfl (by first | rfl | assumption) ?_) | (refine AL.guT rfl (by first | rfl | assumption) ?_) | refine AW.dr (id := 4) (by rfl) [0, 1, 2, 3, 4, 5, 6, 7, 8, 9, 10, 11] (by kernel_rfl) (by kernel_rfl) ?_ | refine AW.dr (id := 6) (by rfl) [0, 1, 2, 3, 4, 5, 6] (by kernel_rfl) (by kernel_rfl) ?_ | ((first | refine AL.ld rfl ?_ | refine AL.bx rfl ?_ | refine AL.ca rfl ?_ | refine AL.pu rfl ?_ | refine AL.guF rfl (by first | rfl | assumption) ?_ | refine AL.skip rfl ?_ | refine AH.ld rfl ?_ | refine AH.bx rfl ?_ | refine AH.ca (dst := some 28) rfl ?_ | refine AH.pu rfl rfl ?_ | refine AH.guF rfl (by first | rfl | assumption) ?_ | refine AH.sk rfl ?_ | refine AH.guLd rfl (by first | rfl | assumption) rfl ?_ | refine AH.guCa rfl (by first | rfl | assumption) rfl ?_ | refine AH.guPu rfl rfl (by first | rfl | assumption) rfl ?_); simp (disch := omega) only [push_cast, ↓reduceIte, reduceCtorEq, Nat.reduceAdd, Nat.reduceMul, Nat.reduceLeDiff, Nat.reduceLT, Nat.reduceSub, Int.reduceNe, Int.reduceEq, Int.reduceLE, Int.reduceLT, Int.reduceToNat, d4])))
      ((first | refine retA.ret (by rfl) ?_ | refine retA.normal (by rfl) ?_); simp (disch := omega) only [push_cast, ↓reduceIte, reduceCtorEq, Nat.reduceAdd, Nat.reduceMul, Nat.reduceLeDiff, Nat.reduceLT, Nat.reduceSub, Int.reduceNe, Int.reduceEq, Int.reduceLE, Int.reduceLT, Int.reduceToNat])
      have : ¬ validP ps cs o := fun h => h.2.2.2.1 c4
      exact ⟨hFF, by simp [this]⟩
    have d4 : decide ((0 : Int) ∈ ps) = false := decide_eq_false c4
    by_cases c5 : 0 ≤ o
    · have d5 : decide (o ≥ 0) = true := decide_eq_true c5
      (repeat (first | refine st ?_ | refine ADL.hd rfl ?_ | refine blockA.here ?_ | refine blockA.exit rfl ?_ | (refine And.intro (by omega) ?_) | (refine AW.condT rfl rfl (by first | rfl | assumption) ?_) | (refine AW.condF rfl rfl (by first | rfl | assumption) ?_) | (refine AL.guT rfl (by first | rfl | assumption) ?_) | refine AW.dr (id := 4) (by rfl) [0, 1, 2, 3, 4, 5, 6, 7, 8, 9, 10, 11] (by kernel_rfl) (by kernel_rfl) ?_ | refine AW.dr (id := 6) (by rfl) [0, 1, 2, 3, 4, 5, 6] (by kernel_rfl) (by kernel_rfl) ?_ | ((first | refine AL.ld rfl ?_ | refine AL.bx rfl ?_ | refine AL.ca rfl ?_ | refine AL.pu rfl ?_ | refine AL.guF rfl (by first | rfl | assumption) ?_ | refine AL.skip rfl ?_ | refine AH.ld rfl ?_ | refine AH.bx rfl ?_ | refine AH.ca (dst := some 28) rfl ?_ | refine AH.pu rfl rfl ?_ | refine AH.guF rfl (by first | rfl | assumption) ?_ | refine AH.sk rfl ?_ | refine AH.guLd rfl (by first | rfl | assumption) rfl ?_ | refine AH.guCa rfl (by first | rfl | assumption) rfl ?_ | refine AH.guPu rfl rfl (by first | rfl | assumption) rfl ?_); simp (disch := omega) only [push_cast, ↓reduceIte, reduceCtorEq, Nat.reduceAdd, Nat.reduceMul, Nat.reduceLeDiff, Nat.reduceLT, Nat.reduceSub, Int.reduceNe, Int.reduceEq, Int.reduceLE, Int.reduceLT, Int.reduceToNat, d4, d5, l2])))
      ((first | refine retA.ret (by rfl) ?_ | refine retA.normal (by rfl) ?_); simp (disch := omega) only [push_cast, ↓reduceIte, reduceCtorEq, Nat.reduceAdd, Nat.reduceMul, Nat.reduceLeDiff, Nat.reduceLT, Nat.reduceSub, Int.reduceNe, Int.reduceEq, Int.reduceLE, Int.reduceLT, Int.reduceToNat])
      refine ⟨hFF, ?_⟩
      have : validP ps cs o ↔ o ≤ 2 := ⟨fun h => h.2.2.2.2.2, fun h => ⟨hris, by omega, by omega, c4, c5, h⟩⟩
      simp [this]
    · have d5 : decide (o ≥ 0) = false := decide_eq_false c5
      (repeat (first | refine st ?_ | refine ADL.hd rfl ?_ | refine blockA.here ?_ | refine blockA.exit rfl ?_ | (refine And.intro (by omega) ?_) | (refine AW.condT rfl rfl (by first | rfl | assumption) ?_) | (refine AW.condF rfl rfl (by first | rfl | assumption) ?_) | (refine AL.guT rfl (by first | rfl | assumption) ?_) | refine AW.dr (id := 4) (by rfl) [0, 1, 2, 3, 4, 5, 6, 7, 8, 9, 10, 11] (by kernel_rfl) (by kernel_rfl) ?_ | refine AW.dr (id := 6) (by rfl) [0, 1, 2, 3, 4, 5, 6] (by kernel_rfl) (by kernel_rfl) ?_ | ((first | refine AL.ld rfl ?_ | refine AL.bx rfl ?_ | refine AL.ca rfl ?_ | refine AL.pu rfl ?_ | refine AL.guF rfl (by first | rfl | assumption) ?_ | refine AL.skip rfl ?_ | refine AH.ld rfl ?_ | refine AH.bx rfl ?_ | refine AH.ca (dst := some 28) rfl ?_ | refine AH.pu rfl rfl ?_ | refine AH.guF rfl (by first | rfl | assumption) ?_ | refine AH.sk rfl ?_ | refine AH.guLd rfl (by first | rfl | assumption) rfl ?_ | refine AH.guCa rfl (by first | rfl | assumption) rfl ?_ | refine AH.guPu rfl rfl (by first | rfl | assumption) rfl ?_); simp (disch := omega) only [push_cast, ↓reduceIte, reduceCtorEq, Nat.reduceAdd, Nat.reduceMul, Nat.reduceLeDiff, Nat.reduceLT, Nat.reduceSub, Int.reduceNe, Int.reduceEq, Int.reduceLE, Int.reduceLT, Int.reduceToNat, d4, d5, l2])))
      ((first | refine retA.ret (by rfl) ?_ | refine retA.normal (by rfl) ?_); simp (disch := omega) only [push_cast, ↓reduceIte, reduceCtorEq, Nat.reduceAdd, Nat.reduceMul, Nat.reduceLeDiff, Nat.reduceLT, Nat.reduceSub, Int.reduceNe, Int.reduceEq, Int.reduceLE, Int.reduceLT, Int.reduceToNat])
      refine ⟨hFF, ?_⟩
      have : ¬ validP ps cs o := fun h => c5 h.2.2.2.2.1
      simp [this]
end Go.Proofs.Ytbjipdmbdabniaa.Ax
