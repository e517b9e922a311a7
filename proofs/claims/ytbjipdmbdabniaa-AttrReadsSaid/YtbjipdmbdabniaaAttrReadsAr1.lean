/- Contracts of functions over the abstract machine. No conditions: lemmas alone. -/
import Derived.Test.YtbjipdmbdabniaaAttrReadsLibD
import Derived.Test.YtbjipdmbdabniaaAttrReadsAt6
import Derived.Test.YtbjipdmbdabniaaAttrReadsT1
namespace Go.Proofs.Ytbjipdmbdabniaa.Ax
open Go Go.RowKit
set_option linter.unusedVariables false
set_option linter.unusedSimpArgs false
set_option maxRecDepth 100000
set_option maxHeartbeats 20000000
attribute [local irreducible] thenA blockA scopeA retA AL AW AD ADL AH clrK CallA apure aload bload appK ptrK fnK ares szOk planOk okOps
theorem number_at {v : Value} {xs : List Int} {M : Mem} {w : Value} {i : Nat} (hp : Pc M v w (xs.drop i)) (hb : ∀ x ∈ xs, 0 ≤ x ∧ x ≤ 255) (hl : i + 4 ≤ xs.length) : CallA Try.prog 39 [w] M fun r M' => M' = M ∧ r = .int .u32 (wordAt xs i) := by
  refine (number_spec w (xs.drop i) M hp.sl (by rw [List.length_drop]; omega) (fun x hx => hb x (List.mem_of_mem_drop hx))).mono ?_
  rintro r M' ⟨rfl, rfl⟩
  have h : ∀ j, (xs.drop i).getD j 0 = xs.getD (i + j) 0 := fun j => by rw [List.getD_eq_getElem?_getD, List.getD_eq_getElem?_getD, List.getElem?_drop]
  refine ⟨rfl, ?_⟩
  rw [h, h, h, h]; rfl
theorem wordAt_drop (xs : List Int) (i j : Nat) : wordAt (xs.drop i) j = wordAt xs (i + j) := by
  have h : ∀ j, (xs.drop i).getD j 0 = xs.getD (i + j) 0 := fun j => by rw [List.getD_eq_getElem?_getD, List.getD_eq_getElem?_getD, List.getElem?_drop]
  unfold wordAt
  rw [h, h, h, h]; rfl
theorem getD_drop (xs : List Int) (i j : Nat) : (xs.drop i).getD j 0 = xs.getD (i + j) 0 := by rw [List.getD_eq_getElem?_getD, List.getD_eq_getElem?_getD, List.getElem?_drop]
theorem pathP_zero {xs out : List Int} {o : Option (List Int)} (h : segP (xs.length + 1) xs = o.map fun l => out ++ l) (h0 : 0 ∈ out) : pathP xs = none := by
  unfold pathP
  rw [h]
  cases o with
  | none => rfl
  | some l => simp [h0]
theorem path_spec (v : Value) (xs : List Int) (M : Mem) (hv : Sl M v 1 (ints .u8 xs)) (hx : xs.length ≤ 100000) (hb : ∀ x ∈ xs, 0 ≤ x ∧ x ≤ 255) : CallA Try.prog 38 [v] M fun r M' => Fr M M' [] ∧ ∃ w d, r = .tuple ⟨[w, .bool d]⟩ ∧
    ((∃ l, pathP xs = some l ∧ d = true ∧ Sl M' w 1 (ints .u32 l) ∧ ∀ b ∈ blkOf w, M.length ≤ b) ∨ (pathP xs = none ∧ d = false ∧ ∃ l, Sl M' w 1 (ints .u32 l) ∧ ∀ b ∈ blkOf w, M.length ≤ b)) := by
  have hs := hv.isSl
  have hn := hv.lnI
  (refine CallA.of_body Try.func38 rfl (by rfl) ?_; simp only [Try.ntmps38, List.length_cons, List.length_nil, List.replicate, List.cons_append, List.nil_append, Nat.reduceSub, Nat.reduceAdd])
  (repeat (first | refine st ?_ | refine blockA.here ?_ | refine blockA.exit rfl ?_ | (refine And.intro (by omega) ?_) | (refine AW.condT rfl rfl (by first | rfl | assumption) ?_) | (refine AW.condF rfl rfl (by first | rfl | assumption) ?_) | (refine AL.guT rfl (by first | rfl | assumption) ?_) | ((first | refine AL.ld rfl ?_ | refine AL.lt rfl ?_ | refine AL.ap rfl rfl ?_ | refine AL.ca rfl ?_ | refine AL.slW (by kernel_rfl) rfl ?_ | refine AL.pu rfl ?_ | refine AL.guF rfl (by first | rfl | assumption) ?_ | refine AL.skip rfl ?_); simp (disch := omega) only [Option.some.injEq, TypeDesc.slice.injEq, exists_eq_left', push_cast, ↓reduceIte, reduceCtorEq, Nat.reduceAdd, Nat.reduceMul, Nat.reduceLeDiff, Nat.reduceLT, Nat.reduceSub, Int.reduceNe, Int.reduceEq, Int.reduceLE, Int.reduceLT, Int.reduceToNat])))
  refine AW.loopF [2, 3, 4, 5, 6, 7, 8, 9, 10, 11, 12, 13, 14, 15, 16, 17, 18, 19, 20, 21, 22, 23, 24, 25, 26, 27, 28, 29, 30, 31, 32, 33, 34, 35, 36, 37, 38, 39, 40, 41, 42, 43, 44, 45, 46, 47, 48, 49, 50, 51, 52, 53, 54, 55, 56, 57, 58, 59, 60, 61, 62, 63, 64, 65, 66, 67, 68, 69, 70, 71, 72, 73, 74, 75, 76, 77, 78, 79, 80] (fun m g M' => ∃ i : Nat, g 5 = .int .i64 i ∧ ∃ o, g 4 = o ∧ i ≤ xs.length ∧ i + m = xs.length ∧ Fr M M' [] ∧ ∃ out, New M M' o 1 (ints .u32 out) ∧ out.length ≤ i ∧ 0 ∉ out ∧ segP (xs.length + 1) xs = (segP ((xs.drop i).length + 1) (xs.drop i)).map fun l => out ++ l) xs.length ?_ ?_
  · refine ⟨0, rfl, .slice none 0 0, rfl, by omega, by omega, Fr.refl M, [], New.nil M (by omega), Nat.zero_le _, by simp, ?_⟩
    rw [List.drop_zero]
    cases segP (xs.length + 1) xs <;> rfl
  rintro m g M1 ⟨i, h5, o, h4, hi, hm, hF, out, hN, hol, h0, hP⟩
  simp (disch := omega) only [push_cast, ↓reduceIte, reduceCtorEq, Nat.reduceAdd, Nat.reduceMul, Nat.reduceLeDiff, Nat.reduceLT, Nat.reduceSub, Int.reduceNe, Int.reduceEq, Int.reduceLE, Int.reduceLT, Int.reduceToNat, h4, h5]
  have hv1 := hv.keep hF (by simp)
  (repeat (first | refine st ?_ | refine blockA.here ?_ | refine blockA.exit rfl ?_ | (refine And.intro (by omega) ?_) | (refine AW.condT rfl rfl (by first | rfl | assumption) ?_) | (refine AW.condF rfl rfl (by first | rfl | assumption) ?_) | (refine AL.guT rfl (by first | rfl | assumption) ?_) | ((first | refine AL.ld rfl ?_ | refine AL.lt rfl ?_ | refine AL.ap rfl rfl ?_ | refine AL.ca rfl ?_ | refine AL.slW (by kernel_rfl) rfl ?_ | refine AL.pu rfl ?_ | refine AL.guF rfl (by first | rfl | assumption) ?_ | refine AL.skip rfl ?_); simp (disch := omega) only [Option.some.injEq, TypeDesc.slice.injEq, exists_eq_left', push_cast, ↓reduceIte, reduceCtorEq, Nat.reduceAdd, Nat.reduceMul, Nat.reduceLeDiff, Nat.reduceLT, Nat.reduceSub, Int.reduceNe, Int.reduceEq, Int.reduceLE, Int.reduceLT, Int.reduceToNat, hs, hn])))
  ((first | refine AL.gu rfl (fun hlt => ?_) (fun hlt => ?_) | refine AW.condS rfl rfl (fun hlt => ?_) (fun hlt => ?_)) <;> (try (have hlt' := hlt; simp only [Bool.not_eq_true', Bool.not_eq_false', Bool.not_true, Bool.not_false, decide_eq_true_eq, decide_eq_false_iff_not, Classical.not_not, Int.not_lt, Int.not_le, gt_iff_lt, ge_iff_le, beq_iff_eq] at hlt')))
  · have hl5 : i < xs.length := by omega
    have hld := fun j h1 => hv1.ldN (P := Try.prog) (ty := 5) (i := j) (by kernel_rfl) h1
    have hdl : (xs.drop i).length = xs.length - i := List.length_drop
    have hne : xs.drop i ≠ [] := by intro e; rw [e] at hdl; simp at hdl; omega
    have bad : ∀ b : Bool, b = false → pathP xs = none → ∃ w d, (Value.tuple ⟨[.slice none 0 0, .bool b]⟩) = .tuple ⟨[w, .bool d]⟩ ∧
        ((∃ l, pathP xs = some l ∧ d = true ∧ Sl M1 w 1 (ints .u32 l) ∧ ∀ b ∈ blkOf w, M.length ≤ b) ∨ (pathP xs = none ∧ d = false ∧ ∃ l, Sl M1 w 1 (ints .u32 l) ∧ ∀ b ∈ blkOf w, M.length ≤ b)) :=
      fun b hb hn => ⟨_, _, rfl, .inr ⟨hn, hb, [], Sl.nil M1 (by omega), fun b hb => by cases hb⟩⟩
    have segbad : (xs.drop i).length < 2 ∨ (xs.drop i).getD 0 0 ≠ 2 ∨ (xs.drop i).getD 1 0 = 0 ∨ (xs.drop i).length - 2 < 4 * ((xs.drop i).getD 1 0).toNat → pathP xs = none := fun h => pathP_none (ys := xs.drop i) hP (segP_bad hne h)
    rw [getD_drop, getD_drop, Nat.add_zero, hdl] at segbad
    by_cases c2 : xs.getD i 0 = 2
    · have d2 : decide ((2 : Int) = 2) = true := rfl
      by_cases c1 : xs.length - i < 2
      · have d1 : decide ((xs.length : Int) - i < 2) = true := decide_eq_true (by omega)
        (repeat (first | refine st ?_ | refine blockA.here ?_ | refine blockA.exit rfl ?_ | (refine And.intro (by omega) ?_) | (refine AW.condT rfl rfl (by first | rfl | assumption) ?_) | (refine AW.condF rfl rfl (by first | rfl | assumption) ?_) | (refine AL.guT rfl (by first | rfl | assumption) ?_) | ((first | refine AL.ld rfl ?_ | refine AL.lt rfl ?_ | refine AL.ap rfl rfl ?_ | refine AL.ca rfl ?_ | refine AL.slW (by kernel_rfl) rfl ?_ | refine AL.pu rfl ?_ | refine AL.guF rfl (by first | rfl | assumption) ?_ | refine AL.skip rfl ?_); simp (disch := omega) only [Option.some.injEq, TypeDesc.slice.injEq, exists_eq_left', push_cast, ↓reduceIte, reduceCtorEq, Nat.reduceAdd, Nat.reduceMul, Nat.reduceLeDiff, Nat.reduceLT, Nat.reduceSub, Int.reduceNe, Int.reduceEq, Int.reduceLE, Int.reduceLT, Int.reduceToNat, hs, hn, hld, c2, d1, w_i64, Int.toNat_natCast, Bool.not_true, Bool.not_false])))
        ((first | refine retA.ret (by rfl) ?_ | refine retA.normal (by rfl) ?_); simp (disch := omega) only [push_cast, ↓reduceIte, reduceCtorEq, Nat.reduceAdd, Nat.reduceMul, Nat.reduceLeDiff, Nat.reduceLT, Nat.reduceSub, Int.reduceNe, Int.reduceEq, Int.reduceLE, Int.reduceLT, Int.reduceToNat])
        exact ⟨hF, bad false rfl (segbad (.inl c1))⟩
      have d1 : decide ((xs.length : Int) - i < 2) = false := decide_eq_false (by omega)
      have b1 := getD_byte hb (i + 1)
      have b11 := b1.1
      have b12 := b1.2
      obtain ⟨q, hq⟩ : ∃ q : Nat, xs.getD (i + 1) 0 = q := ⟨(xs.getD (i + 1) 0).toNat, by omega⟩
      by_cases c3 : q = 0
      · have d3 : decide ((q : Int) = 0) = true := decide_eq_true (by omega)
        (repeat (first | refine st ?_ | refine blockA.here ?_ | refine blockA.exit rfl ?_ | (refine And.intro (by omega) ?_) | (refine AW.condT rfl rfl (by first | rfl | assumption) ?_) | (refine AW.condF rfl rfl (by first | rfl | assumption) ?_) | (refine AL.guT rfl (by first | rfl | assumption) ?_) | ((first | refine AL.ld rfl ?_ | refine AL.lt rfl ?_ | refine AL.ap rfl rfl ?_ | refine AL.ca rfl ?_ | refine AL.slW (by kernel_rfl) rfl ?_ | refine AL.pu rfl ?_ | refine AL.guF rfl (by first | rfl | assumption) ?_ | refine AL.skip rfl ?_); simp (disch := omega) only [Option.some.injEq, TypeDesc.slice.injEq, exists_eq_left', push_cast, ↓reduceIte, reduceCtorEq, Nat.reduceAdd, Nat.reduceMul, Nat.reduceLeDiff, Nat.reduceLT, Nat.reduceSub, Int.reduceNe, Int.reduceEq, Int.reduceLE, Int.reduceLT, Int.reduceToNat, hs, hn, hld, c2, d1, hq, d3, w_i64, tn_add1, Int.toNat_natCast, Bool.not_true, Bool.not_false])))
        ((first | refine retA.ret (by rfl) ?_ | refine retA.normal (by rfl) ?_); simp (disch := omega) only [push_cast, ↓reduceIte, reduceCtorEq, Nat.reduceAdd, Nat.reduceMul, Nat.reduceLeDiff, Nat.reduceLT, Nat.reduceSub, Int.reduceNe, Int.reduceEq, Int.reduceLE, Int.reduceLT, Int.reduceToNat])
        exact ⟨hF, bad false rfl (segbad (.inr (.inr (.inl (by omega)))))⟩
      have d3 : decide ((q : Int) = 0) = false := decide_eq_false (by omega)
      by_cases c4 : xs.length - i - 2 < 4 * q
      · have d4 : decide ((xs.length : Int) - i - 2 < 4 * (q : Int)) = true := decide_eq_true (by omega)
        (repeat (first | refine st ?_ | refine blockA.here ?_ | refine blockA.exit rfl ?_ | (refine And.intro (by omega) ?_) | (refine AW.condT rfl rfl (by first | rfl | assumption) ?_) | (refine AW.condF rfl rfl (by first | rfl | assumption) ?_) | (refine AL.guT rfl (by first | rfl | assumption) ?_) | ((first | refine AL.ld rfl ?_ | refine AL.lt rfl ?_ | refine AL.ap rfl rfl ?_ | refine AL.ca rfl ?_ | refine AL.slW (by kernel_rfl) rfl ?_ | refine AL.pu rfl ?_ | refine AL.guF rfl (by first | rfl | assumption) ?_ | refine AL.skip rfl ?_); simp (disch := omega) only [Option.some.injEq, TypeDesc.slice.injEq, exists_eq_left', push_cast, ↓reduceIte, reduceCtorEq, Nat.reduceAdd, Nat.reduceMul, Nat.reduceLeDiff, Nat.reduceLT, Nat.reduceSub, Int.reduceNe, Int.reduceEq, Int.reduceLE, Int.reduceLT, Int.reduceToNat, hs, hn, hld, c2, d1, hq, d3, d4, w_i64, tn_add1, Int.toNat_natCast, Bool.not_true, Bool.not_false])))
        ((first | refine retA.ret (by rfl) ?_ | refine retA.normal (by rfl) ?_); simp (disch := omega) only [push_cast, ↓reduceIte, reduceCtorEq, Nat.reduceAdd, Nat.reduceMul, Nat.reduceLeDiff, Nat.reduceLT, Nat.reduceSub, Int.reduceNe, Int.reduceEq, Int.reduceLE, Int.reduceLT, Int.reduceToNat])
        exact ⟨hF, bad false rfl (segbad (.inr (.inr (.inr (by omega)))))⟩
      have d4 : decide ((xs.length : Int) - i - 2 < 4 * (q : Int)) = false := decide_eq_false (by omega)
      (repeat (first | refine st ?_ | refine blockA.here ?_ | refine blockA.exit rfl ?_ | (refine And.intro (by omega) ?_) | (refine AW.condT rfl rfl (by first | rfl | assumption) ?_) | (refine AW.condF rfl rfl (by first | rfl | assumption) ?_) | (refine AL.guT rfl (by first | rfl | assumption) ?_) | ((first | refine AL.ld rfl ?_ | refine AL.lt rfl ?_ | refine AL.ap rfl rfl ?_ | refine AL.ca rfl ?_ | refine AL.slW (by kernel_rfl) rfl ?_ | refine AL.pu rfl ?_ | refine AL.guF rfl (by first | rfl | assumption) ?_ | refine AL.skip rfl ?_); simp (disch := omega) only [Option.some.injEq, TypeDesc.slice.injEq, exists_eq_left', push_cast, ↓reduceIte, reduceCtorEq, Nat.reduceAdd, Nat.reduceMul, Nat.reduceLeDiff, Nat.reduceLT, Nat.reduceSub, Int.reduceNe, Int.reduceEq, Int.reduceLE, Int.reduceLT, Int.reduceToNat, hs, hn, hld, c2, d1, hq, d3, d4, w_i64, tn_add1, Int.toNat_natCast, Bool.not_true, Bool.not_false])))
      have hgood := segP_good (ys := xs.drop i) (q := q) hne (by omega) (by rw [getD_drop]; exact c2) (by rw [getD_drop]; exact hq) (by omega) (by omega)
      rw [List.drop_drop, List.drop_drop] at hgood
      rw [hgood] at hP
      refine AW.loopF [2, 3, 4, 6, 7, 47, 48, 49, 50, 51, 52, 53, 54, 55, 56, 57, 58, 59, 60, 61, 62, 63, 64, 65, 66, 67, 68, 69, 70] (fun m' g M' => ∃ k : Nat, g 6 = .int .i64 k ∧ ∃ o, g 4 = o ∧ k ≤ q ∧ k + m' = q ∧ Fr M M' [] ∧ New M M' o 1 (ints .u32 (out ++ words (xs.drop (i + 2)) k)) ∧ 0 ∉ words (xs.drop (i + 2)) k) q ?_ ?_
      · exact ⟨0, rfl, o, rfl, by omega, by omega, hF, by simpa [words] using hN, by simp [words]⟩
      clear hF hN hv1 hld bad
      rintro m2 g2 M2 ⟨k, h6, o2, h4', hk, hkm, hF, hN, h0k⟩
      simp (disch := omega) only [push_cast, ↓reduceIte, reduceCtorEq, Nat.reduceAdd, Nat.reduceMul, Nat.reduceLeDiff, Nat.reduceLT, Nat.reduceSub, Int.reduceNe, Int.reduceEq, Int.reduceLE, Int.reduceLT, Int.reduceToNat, h6, h4']
      have hv1 := hv.keep hF (by simp)
      have hld := fun j h1 => hv1.ldN (P := Try.prog) (ty := 5) (i := j) (by kernel_rfl) h1
      (repeat (first | refine st ?_ | refine blockA.here ?_ | refine blockA.exit rfl ?_ | (refine And.intro (by omega) ?_) | (refine AW.condT rfl rfl (by first | rfl | assumption) ?_) | (refine AW.condF rfl rfl (by first | rfl | assumption) ?_) | (refine AL.guT rfl (by first | rfl | assumption) ?_) | ((first | refine AL.ld rfl ?_ | refine AL.lt rfl ?_ | refine AL.ap rfl rfl ?_ | refine AL.ca rfl ?_ | refine AL.slW (by kernel_rfl) rfl ?_ | refine AL.pu rfl ?_ | refine AL.guF rfl (by first | rfl | assumption) ?_ | refine AL.skip rfl ?_); simp (disch := omega) only [Option.some.injEq, TypeDesc.slice.injEq, exists_eq_left', push_cast, ↓reduceIte, reduceCtorEq, Nat.reduceAdd, Nat.reduceMul, Nat.reduceLeDiff, Nat.reduceLT, Nat.reduceSub, Int.reduceNe, Int.reduceEq, Int.reduceLE, Int.reduceLT, Int.reduceToNat, hs, hn, hld, hq, w_i64, tn_add1, Int.toNat_natCast])))
      ((first | refine AL.gu rfl (fun hlk => ?_) (fun hlk => ?_) | refine AW.condS rfl rfl (fun hlk => ?_) (fun hlk => ?_)) <;> (try (have hlk' := hlk; simp only [Bool.not_eq_true', Bool.not_eq_false', Bool.not_true, Bool.not_false, decide_eq_true_eq, decide_eq_false_iff_not, Classical.not_not, Int.not_lt, Int.not_le, gt_iff_lt, ge_iff_le, beq_iff_eq] at hlk')))
      · have hkq : k < q := by omega
        obtain ⟨w, hw, pw⟩ := hv1.pcFrom (i + 2 + 4 * k) (by omega)
        have hw' : aslice v 1 (some (.int .i64 ((i : Int) + 2 + 4 * (k : Int)))) none none = some w := hw
        have hsz := hv1.sz
        (repeat (first | refine st ?_ | refine blockA.here ?_ | refine blockA.exit rfl ?_ | (refine And.intro (by omega) ?_) | (refine AW.condT rfl rfl (by first | rfl | assumption) ?_) | (refine AW.condF rfl rfl (by first | rfl | assumption) ?_) | (refine AL.guT rfl (by first | rfl | assumption) ?_) | ((first | refine AL.ld rfl ?_ | refine AL.lt rfl ?_ | refine AL.ap rfl rfl ?_ | refine AL.ca rfl ?_ | refine AL.slW (by kernel_rfl) rfl ?_ | refine AL.pu rfl ?_ | refine AL.guF rfl (by first | rfl | assumption) ?_ | refine AL.skip rfl ?_); simp (disch := omega) only [Option.some.injEq, TypeDesc.slice.injEq, exists_eq_left', push_cast, ↓reduceIte, reduceCtorEq, Nat.reduceAdd, Nat.reduceMul, Nat.reduceLeDiff, Nat.reduceLT, Nat.reduceSub, Int.reduceNe, Int.reduceEq, Int.reduceLE, Int.reduceLT, Int.reduceToNat, hs, hn, w_i64, hw', hsz, Option.map_none, Option.map_some])))
        refine (number_at pw hb (by omega)).mono ?_
        rintro r M3 ⟨rfl, rfl⟩
        have hwz : wordAt (xs.drop (i + 2)) (4 * k) = wordAt xs (i + 2 + 4 * k) := wordAt_drop xs (i + 2) (4 * k)
        (repeat (first | refine st ?_ | refine blockA.here ?_ | refine blockA.exit rfl ?_ | (refine And.intro (by omega) ?_) | (refine AW.condT rfl rfl (by first | rfl | assumption) ?_) | (refine AW.condF rfl rfl (by first | rfl | assumption) ?_) | (refine AL.guT rfl (by first | rfl | assumption) ?_) | ((first | refine AL.ld rfl ?_ | refine AL.lt rfl ?_ | refine AL.ap rfl rfl ?_ | refine AL.ca rfl ?_ | refine AL.slW (by kernel_rfl) rfl ?_ | refine AL.pu rfl ?_ | refine AL.guF rfl (by first | rfl | assumption) ?_ | refine AL.skip rfl ?_); simp (disch := omega) only [Option.some.injEq, TypeDesc.slice.injEq, exists_eq_left', push_cast, ↓reduceIte, reduceCtorEq, Nat.reduceAdd, Nat.reduceMul, Nat.reduceLeDiff, Nat.reduceLT, Nat.reduceSub, Int.reduceNe, Int.reduceEq, Int.reduceLE, Int.reduceLT, Int.reduceToNat])))
        ((first | refine AL.gu rfl (fun hz => ?_) (fun hz => ?_) | refine AW.condS rfl rfl (fun hz => ?_) (fun hz => ?_)) <;> (try (have hz' := hz; simp only [Bool.not_eq_true', Bool.not_eq_false', Bool.not_true, Bool.not_false, decide_eq_true_eq, decide_eq_false_iff_not, Classical.not_not, Int.not_lt, Int.not_le, gt_iff_lt, ge_iff_le, beq_iff_eq] at hz')))
        · (repeat (first | refine st ?_ | refine blockA.here ?_ | refine blockA.exit rfl ?_ | (refine And.intro (by omega) ?_) | (refine AW.condT rfl rfl (by first | rfl | assumption) ?_) | (refine AW.condF rfl rfl (by first | rfl | assumption) ?_) | (refine AL.guT rfl (by first | rfl | assumption) ?_) | ((first | refine AL.ld rfl ?_ | refine AL.lt rfl ?_ | refine AL.ap rfl rfl ?_ | refine AL.ca rfl ?_ | refine AL.slW (by kernel_rfl) rfl ?_ | refine AL.pu rfl ?_ | refine AL.guF rfl (by first | rfl | assumption) ?_ | refine AL.skip rfl ?_); simp (disch := omega) only [Option.some.injEq, TypeDesc.slice.injEq, exists_eq_left', push_cast, ↓reduceIte, reduceCtorEq, Nat.reduceAdd, Nat.reduceMul, Nat.reduceLeDiff, Nat.reduceLT, Nat.reduceSub, Int.reduceNe, Int.reduceEq, Int.reduceLE, Int.reduceLT, Int.reduceToNat])))
          ((first | refine retA.ret (by rfl) ?_ | refine retA.normal (by rfl) ?_); simp (disch := omega) only [push_cast, ↓reduceIte, reduceCtorEq, Nat.reduceAdd, Nat.reduceMul, Nat.reduceLeDiff, Nat.reduceLT, Nat.reduceSub, Int.reduceNe, Int.reduceEq, Int.reduceLE, Int.reduceLT, Int.reduceToNat])
          have hnone : pathP xs = none := by
            refine pathP_zero (xs := xs) (out := out ++ words (xs.drop (i + 2)) q) (o := segP ((xs.drop (i + (2 + 4 * q))).length + 1) (xs.drop (i + (2 + 4 * q)))) ?_ ?_
            · rw [hP]; cases segP ((xs.drop (i + (2 + 4 * q))).length + 1) (xs.drop (i + (2 + 4 * q))) <;> simp
            · refine List.mem_append.2 (.inr ?_)
              refine List.mem_map.2 ⟨k, List.mem_range.2 hkq, ?_⟩
              rw [hwz]; exact hz'
          exact ⟨hF, _, _, rfl, .inr ⟨hnone, rfl, [], Sl.nil _ (by omega), fun b hb => by cases hb⟩⟩
        · (repeat (first | refine st ?_ | refine blockA.here ?_ | refine blockA.exit rfl ?_ | (refine And.intro (by omega) ?_) | (refine AW.condT rfl rfl (by first | rfl | assumption) ?_) | (refine AW.condF rfl rfl (by first | rfl | assumption) ?_) | (refine AL.guT rfl (by first | rfl | assumption) ?_) | ((first | refine AL.ld rfl ?_ | refine AL.lt rfl ?_ | refine AL.ap rfl rfl ?_ | refine AL.ca rfl ?_ | refine AL.slW (by kernel_rfl) rfl ?_ | refine AL.pu rfl ?_ | refine AL.guF rfl (by first | rfl | assumption) ?_ | refine AL.skip rfl ?_); simp (disch := omega) only [Option.some.injEq, TypeDesc.slice.injEq, exists_eq_left', push_cast, ↓reduceIte, reduceCtorEq, Nat.reduceAdd, Nat.reduceMul, Nat.reduceLeDiff, Nat.reduceLT, Nat.reduceSub, Int.reduceNe, Int.reduceEq, Int.reduceLE, Int.reduceLT, Int.reduceToNat])))
          have hrow := New.row M3 (s := 1) (n := 1) (cs := ints .u32 [wordAt xs (i + 2 + 4 * k)]) (by omega) rfl rfl (by decide)
          have hN1 := hN.keep (Fr.push M3 (.row true 1 [.int .u32 (wordAt xs (i + 2 + 4 * k))])) (by simp)
          have hwl := words_length (xs.drop (i + 2)) k
          refine appK.ints (P := Try.prog) (e := 25) (bt := 4) (z := .int .u32 0) (by kernel_rfl) (by kernel_rfl) (by kernel_rfl) (by kernel_rfl) (by decide) hN1.1 hrow.sl (by rw [List.length_append, hwl]; simp; omega) ?_
          intro v' M4 hN4 hF4
          rw [List.append_assoc, ← hwz, ← words_succ] at hN4
          have hF5 : Fr M M4 [] := (hF.tr (Fr.push M3 _)).new hN1 hF4
          (repeat (first | refine st ?_ | refine blockA.here ?_ | refine blockA.exit rfl ?_ | (refine And.intro (by omega) ?_) | (refine AW.condT rfl rfl (by first | rfl | assumption) ?_) | (refine AW.condF rfl rfl (by first | rfl | assumption) ?_) | (refine AL.guT rfl (by first | rfl | assumption) ?_) | ((first | refine AL.ld rfl ?_ | refine AL.lt rfl ?_ | refine AL.ap rfl rfl ?_ | refine AL.ca rfl ?_ | refine AL.slW (by kernel_rfl) rfl ?_ | refine AL.pu rfl ?_ | refine AL.guF rfl (by first | rfl | assumption) ?_ | refine AL.skip rfl ?_); simp (disch := omega) only [Option.some.injEq, TypeDesc.slice.injEq, exists_eq_left', push_cast, ↓reduceIte, reduceCtorEq, Nat.reduceAdd, Nat.reduceMul, Nat.reduceLeDiff, Nat.reduceLT, Nat.reduceSub, Int.reduceNe, Int.reduceEq, Int.reduceLE, Int.reduceLT, Int.reduceToNat, w_i64])))
          refine ⟨rfl, m2 - 1, by omega, k + 1, rfl, by omega, by omega, hF5, hN4.after (hF.tr (Fr.push M3 _)), ?_⟩
          rw [words_succ, List.mem_append, List.mem_singleton, hwz]
          rintro (h | h)
          · exact h0k h
          · exact hz' h.symm
      · obtain rfl : k = q := by omega
        (repeat (first | refine st ?_ | refine blockA.here ?_ | refine blockA.exit rfl ?_ | (refine And.intro (by omega) ?_) | (refine AW.condT rfl rfl (by first | rfl | assumption) ?_) | (refine AW.condF rfl rfl (by first | rfl | assumption) ?_) | (refine AL.guT rfl (by first | rfl | assumption) ?_) | ((first | refine AL.ld rfl ?_ | refine AL.lt rfl ?_ | refine AL.ap rfl rfl ?_ | refine AL.ca rfl ?_ | refine AL.slW (by kernel_rfl) rfl ?_ | refine AL.pu rfl ?_ | refine AL.guF rfl (by first | rfl | assumption) ?_ | refine AL.skip rfl ?_); simp (disch := omega) only [Option.some.injEq, TypeDesc.slice.injEq, exists_eq_left', push_cast, ↓reduceIte, reduceCtorEq, Nat.reduceAdd, Nat.reduceMul, Nat.reduceLeDiff, Nat.reduceLT, Nat.reduceSub, Int.reduceNe, Int.reduceEq, Int.reduceLE, Int.reduceLT, Int.reduceToNat, hs, hn, hld, hq, w_i64, tn_add1, Int.toNat_natCast])))
        have hwl := words_length (xs.drop (i + 2)) k
        refine ⟨rfl, m - (2 + 4 * k), by omega, i + (2 + 4 * k), rfl, by omega, by omega, hF, out ++ words (xs.drop (i + 2)) k, hN, by rw [List.length_append]; omega, ?_, ?_⟩
        · rw [List.mem_append]; rintro (h | h)
          · exact h0 h
          · exact h0k h
        · rw [hP]
          cases segP ((xs.drop (i + (2 + 4 * k))).length + 1) (xs.drop (i + (2 + 4 * k))) <;> simp
    · have d2 : decide (xs.getD i 0 = 2) = false := decide_eq_false c2
      (repeat (first | refine st ?_ | refine blockA.here ?_ | refine blockA.exit rfl ?_ | (refine And.intro (by omega) ?_) | (refine AW.condT rfl rfl (by first | rfl | assumption) ?_) | (refine AW.condF rfl rfl (by first | rfl | assumption) ?_) | (refine AL.guT rfl (by first | rfl | assumption) ?_) | ((first | refine AL.ld rfl ?_ | refine AL.lt rfl ?_ | refine AL.ap rfl rfl ?_ | refine AL.ca rfl ?_ | refine AL.slW (by kernel_rfl) rfl ?_ | refine AL.pu rfl ?_ | refine AL.guF rfl (by first | rfl | assumption) ?_ | refine AL.skip rfl ?_); simp (disch := omega) only [Option.some.injEq, TypeDesc.slice.injEq, exists_eq_left', push_cast, ↓reduceIte, reduceCtorEq, Nat.reduceAdd, Nat.reduceMul, Nat.reduceLeDiff, Nat.reduceLT, Nat.reduceSub, Int.reduceNe, Int.reduceEq, Int.reduceLE, Int.reduceLT, Int.reduceToNat, hs, hn, hld, d2, w_i64, Int.toNat_natCast, Bool.not_true, Bool.not_false])))
      ((first | refine retA.ret (by rfl) ?_ | refine retA.normal (by rfl) ?_); simp (disch := omega) only [push_cast, ↓reduceIte, reduceCtorEq, Nat.reduceAdd, Nat.reduceMul, Nat.reduceLeDiff, Nat.reduceLT, Nat.reduceSub, Int.reduceNe, Int.reduceEq, Int.reduceLE, Int.reduceLT, Int.reduceToNat])
      exact ⟨hF, bad false rfl (segbad (.inr (.inl c2)))⟩
  · obtain rfl : i = xs.length := by omega
    have hso := hN.sl.isSl
    have hno := hN.sl.lnI
    have hP' : segP (xs.length + 1) xs = some out := by rw [hP]; simp [segP]
    by_cases c1 : out.length ≤ 255
    · have d1 : decide ((out.length : Int) ≤ 255) = true := decide_eq_true (by omega)
      (repeat (first | refine st ?_ | refine blockA.here ?_ | refine blockA.exit rfl ?_ | (refine And.intro (by omega) ?_) | (refine AW.condT rfl rfl (by first | rfl | assumption) ?_) | (refine AW.condF rfl rfl (by first | rfl | assumption) ?_) | (refine AL.guT rfl (by first | rfl | assumption) ?_) | ((first | refine AL.ld rfl ?_ | refine AL.lt rfl ?_ | refine AL.ap rfl rfl ?_ | refine AL.ca rfl ?_ | refine AL.slW (by kernel_rfl) rfl ?_ | refine AL.pu rfl ?_ | refine AL.guF rfl (by first | rfl | assumption) ?_ | refine AL.skip rfl ?_); simp (disch := omega) only [Option.some.injEq, TypeDesc.slice.injEq, exists_eq_left', push_cast, ↓reduceIte, reduceCtorEq, Nat.reduceAdd, Nat.reduceMul, Nat.reduceLeDiff, Nat.reduceLT, Nat.reduceSub, Int.reduceNe, Int.reduceEq, Int.reduceLE, Int.reduceLT, Int.reduceToNat, hso, hno, d1])))
      ((first | refine retA.ret (by rfl) ?_ | refine retA.normal (by rfl) ?_); simp (disch := omega) only [push_cast, ↓reduceIte, reduceCtorEq, Nat.reduceAdd, Nat.reduceMul, Nat.reduceLeDiff, Nat.reduceLT, Nat.reduceSub, Int.reduceNe, Int.reduceEq, Int.reduceLE, Int.reduceLT, Int.reduceToNat])
      exact ⟨hF, _, _, rfl, .inl ⟨out, by unfold pathP; rw [hP']; simp [c1, h0], rfl, hN.sl, hN.blk⟩⟩
    · have d1 : decide ((out.length : Int) ≤ 255) = false := decide_eq_false (by omega)
      (repeat (first | refine st ?_ | refine blockA.here ?_ | refine blockA.exit rfl ?_ | (refine And.intro (by omega) ?_) | (refine AW.condT rfl rfl (by first | rfl | assumption) ?_) | (refine AW.condF rfl rfl (by first | rfl | assumption) ?_) | (refine AL.guT rfl (by first | rfl | assumption) ?_) | ((first | refine AL.ld rfl ?_ | refine AL.lt rfl ?_ | refine AL.ap rfl rfl ?_ | refine AL.ca rfl ?_ | refine AL.slW (by kernel_rfl) rfl ?_ | refine AL.pu rfl ?_ | refine AL.guF rfl (by first | rfl | assumption) ?_ | refine AL.skip rfl ?_); simp (disch := omega) only [Option.some.injEq, TypeDesc.slice.injEq, exists_eq_left', push_cast, ↓reduceIte, reduceCtorEq, Nat.reduceAdd, Nat.reduceMul, Nat.reduceLeDiff, Nat.reduceLT, Nat.reduceSub, Int.reduceNe, Int.reduceEq, Int.reduceLE, Int.reduceLT, Int.reduceToNat, hso, hno, d1])))
      ((first | refine retA.ret (by rfl) ?_ | refine retA.normal (by rfl) ?_); simp (disch := omega) only [push_cast, ↓reduceIte, reduceCtorEq, Nat.reduceAdd, Nat.reduceMul, Nat.reduceLeDiff, Nat.reduceLT, Nat.reduceSub, Int.reduceNe, Int.reduceEq, Int.reduceLE, Int.reduceLT, Int.reduceToNat])
      exact ⟨hF, _, _, rfl, .inr ⟨by unfold pathP; rw [hP']; simp [c1], rfl, out, hN.sl, hN.blk⟩⟩

end Go.Proofs.Ytbjipdmbdabniaa.Ax
