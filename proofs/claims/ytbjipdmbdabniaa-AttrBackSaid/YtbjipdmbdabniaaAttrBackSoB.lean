/- Contracts of functions over the abstract machine. No conditions: lemmas alone. -/
import Derived.Test.YtbjipdmbdabniaaAttrBackLibD
import Derived.Test.YtbjipdmbdabniaaAttrBackSoA
namespace Go.Proofs.Ytbjipdmbdabniaa.Ax
open Go Go.RowKit
set_option linter.unusedVariables false
set_option linter.unusedSimpArgs false
set_option maxRecDepth 100000
set_option maxHeartbeats 20000000
attribute [local irreducible] thenA blockA scopeA retA AL AW AD ADL AH clrK CallA apure aload bload appK ptrK fnK ares szOk planOk okOps
theorem Rw.same {M : Mem} {b off n c : Nat} {pre post : List Value} {xs : List Int} (h : Rw M b off n c pre post xs) : M.set b (.row true 1 (pre ++ ints .u32 xs ++ post)) = M := by
  apply List.ext_getElem?
  intro i
  by_cases e : b = i
  · subst e; rw [List.getElem?_set_self h.lt, h.get]
  · rw [List.getElem?_set_ne e]
/-- Rising but for one place, which is at most what stands behind it. -/
structure InsAt (a i j : Nat) (zs : List Int) : Prop where
  rise : ∀ p q, a ≤ p → p < q → q ≤ i → p ≠ j → q ≠ j → zs.getD p 0 ≤ zs.getD q 0
  low : ∀ q, j < q → q ≤ i → zs.getD j 0 ≤ zs.getD q 0
theorem SortOn.start {a i : Nat} {zs : List Int} (h : SortOn a i zs) (j : Nat) (hj : j = i := by rfl) : InsAt a i j zs := by
  subst hj
  exact ⟨fun p q h1 h2 h3 h4 h5 => h p q h1 h2 (by omega), fun q h1 h2 => by omega⟩
theorem InsAt.done {a i j : Nat} {zs : List Int} (h : InsAt a i j zs) (hj : j ≤ i) (hd : a < j → zs.getD (j - 1) 0 ≤ zs.getD j 0) : SortOn a (i + 1) zs := by
  intro p q h1 h2 h3
  by_cases hp : p = j
  · subst hp; exact h.low q h2 (by omega)
  · by_cases hq : q = j
    · subst hq
      have h4 := hd (by omega)
      by_cases hp1 : p = q - 1
      · rw [hp1]; exact h4
      · exact Int.le_trans (h.rise p (q - 1) h1 (by omega) (by omega) hp (by omega)) h4
    · exact h.rise p q h1 h2 (by omega) hp hq
theorem InsAt.step {a i j : Nat} {zs : List Int} (h : InsAt a i j zs) (ha : a < j) (hj : j ≤ i) (hi : i < zs.length) (hlt : zs.getD j 0 < zs.getD (j - 1) 0) : InsAt a i (j - 1) (swap zs j (j - 1)) := by
  have hg : ∀ k, k < zs.length → (swap zs j (j - 1)).getD k 0 = if k = j - 1 then zs.getD j 0 else if k = j then zs.getD (j - 1) 0 else zs.getD k 0 := fun k hk => swap_get (by omega) (by omega) hk
  refine ⟨fun p q h1 h2 h3 h4 h5 => ?_, fun q h1 h2 => ?_⟩
  · rw [hg p (by omega), hg q (by omega), if_neg h4, if_neg h5]
    by_cases hp : p = j
    · rw [if_pos hp, if_neg (by omega)]; exact h.rise (j - 1) q (by omega) (by omega) h3 (by omega) (by omega)
    · rw [if_neg hp]
      by_cases hq : q = j
      · rw [if_pos hq]; exact h.rise p (j - 1) h1 (by omega) (by omega) hp (by omega)
      · rw [if_neg hq]; exact h.rise p q h1 h2 h3 hp hq
  · rw [hg (j - 1) (by omega), hg q (by omega), if_pos rfl, if_neg (by omega)]
    by_cases hq : q = j
    · rw [if_pos hq]; omega
    · rw [if_neg hq]; exact h.low q (by omega) h2
theorem ins_spec {M : Mem} {b off n c : Nat} {pre post : List Value} {xs : List Int} (h : Rw M b off n c pre post xs) (a e : Nat) (ha : a ≤ e) (he : e ≤ xs.length) (hn : xs.length ≤ 1000000000) :
    CallA Try.prog 52 [.slice (some ⟨b, off, none⟩) n c, .int .i64 a, .int .i64 e] M fun v M' => ∃ ys, M' = M.set b (.row true 1 (pre ++ ints .u32 ys ++ post)) ∧ PermOn a e xs ys ∧ SortOn a e ys := by
  have hlen := h.len
  (refine CallA.of_body Try.func52 rfl (by rfl) ?_; simp only [Try.ntmps52, List.length_cons, List.length_nil, List.replicate, List.cons_append, List.nil_append, Nat.reduceSub, Nat.reduceAdd])
  (repeat (first | refine st ?_ | refine AW.label ?_ | refine blockA.here ?_ | refine blockA.exit rfl ?_ | (refine And.intro (by omega) ?_) | (refine AW.condT rfl rfl (by first | rfl | assumption) ?_) | (refine AW.condF rfl rfl (by first | rfl | assumption) ?_) | (refine AL.guT rfl (by first | rfl | assumption) ?_) | ((first | refine AL.ld rfl ?_ | refine AL.bx rfl ?_ | refine AL.al ?_ | refine AL.lt rfl ?_ | refine AL.st rfl rfl ?_ | refine AL.ap rfl rfl ?_ | refine AL.ca rfl ?_ | refine AL.slW (by kernel_rfl) rfl ?_ | refine AL.pu rfl ?_ | refine AL.guF rfl (by first | rfl | assumption) ?_); simp (disch := omega) only [Option.some.injEq, TypeDesc.slice.injEq, exists_eq_left', push_cast, ↓reduceIte, reduceCtorEq, Nat.reduceAdd, Nat.reduceMul, Nat.reduceLeDiff, Nat.reduceLT, Nat.reduceSub, Int.reduceNe, Int.reduceEq, Int.reduceLE, Int.reduceLT, Int.reduceToNat, w_i64])))
  refine AW.loopF [6, 7, 10, 11, 12, 13, 14, 15, 16, 17, 18, 19, 20, 21, 22, 23, 24, 25, 26, 27, 28, 29, 30, 31, 32, 33, 34, 35, 36, 37, 38, 39, 40, 41, 42, 43, 44, 45, 46, 47, 48] (fun m f M' => ∃ (i : Nat) (ys : List Int), f 6 = .int .i64 i ∧ a + 1 ≤ i ∧ (i ≤ e ∨ i = a + 1) ∧ i + m = e + 1 ∧ M' = M.set b (.row true 1 (pre ++ ints .u32 ys ++ post)) ∧ PermOn a e xs ys ∧ SortOn a i ys) (e - a) ?_ ?_
  · exact ⟨a + 1, xs, by simp, by omega, by omega, by omega, h.same.symm, PermOn.refl _ _ _, fun i j _ _ _ => by omega⟩
  rintro m f M1 ⟨i, ys, h6, hi1, hi2, hm, rfl, hP, hS⟩
  simp (disch := omega) only [push_cast, ↓reduceIte, reduceCtorEq, Nat.reduceAdd, Nat.reduceMul, Nat.reduceLeDiff, Nat.reduceLT, Nat.reduceSub, Int.reduceNe, Int.reduceEq, Int.reduceLE, Int.reduceLT, Int.reduceToNat, h6]
  (repeat (first | refine st ?_ | refine AW.label ?_ | refine blockA.here ?_ | refine blockA.exit rfl ?_ | (refine And.intro (by omega) ?_) | (refine AW.condT rfl rfl (by first | rfl | assumption) ?_) | (refine AW.condF rfl rfl (by first | rfl | assumption) ?_) | (refine AL.guT rfl (by first | rfl | assumption) ?_) | ((first | refine AL.ld rfl ?_ | refine AL.bx rfl ?_ | refine AL.al ?_ | refine AL.lt rfl ?_ | refine AL.st rfl rfl ?_ | refine AL.ap rfl rfl ?_ | refine AL.ca rfl ?_ | refine AL.slW (by kernel_rfl) rfl ?_ | refine AL.pu rfl ?_ | refine AL.guF rfl (by first | rfl | assumption) ?_); simp (disch := omega) only [Option.some.injEq, TypeDesc.slice.injEq, exists_eq_left', push_cast, ↓reduceIte, reduceCtorEq, Nat.reduceAdd, Nat.reduceMul, Nat.reduceLeDiff, Nat.reduceLT, Nat.reduceSub, Int.reduceNe, Int.reduceEq, Int.reduceLE, Int.reduceLT, Int.reduceToNat, w_i64])))
  ((first | refine AL.gu rfl (fun hlt => ?_) (fun hlt => ?_) | refine AW.condS rfl rfl (fun hlt => ?_) (fun hlt => ?_)) <;> (try (have hlt' := hlt; simp only [Bool.not_eq_true', Bool.not_eq_false', Bool.not_true, Bool.not_false, decide_eq_true_eq, decide_eq_false_iff_not, Classical.not_not, Int.not_lt, Int.not_le, gt_iff_lt, ge_iff_le, beq_iff_eq] at hlt')))
  · (repeat (first | refine st ?_ | refine AW.label ?_ | refine blockA.here ?_ | refine blockA.exit rfl ?_ | (refine And.intro (by omega) ?_) | (refine AW.condT rfl rfl (by first | rfl | assumption) ?_) | (refine AW.condF rfl rfl (by first | rfl | assumption) ?_) | (refine AL.guT rfl (by first | rfl | assumption) ?_) | ((first | refine AL.ld rfl ?_ | refine AL.bx rfl ?_ | refine AL.al ?_ | refine AL.lt rfl ?_ | refine AL.st rfl rfl ?_ | refine AL.ap rfl rfl ?_ | refine AL.ca rfl ?_ | refine AL.slW (by kernel_rfl) rfl ?_ | refine AL.pu rfl ?_ | refine AL.guF rfl (by first | rfl | assumption) ?_); simp (disch := omega) only [Option.some.injEq, TypeDesc.slice.injEq, exists_eq_left', push_cast, ↓reduceIte, reduceCtorEq, Nat.reduceAdd, Nat.reduceMul, Nat.reduceLeDiff, Nat.reduceLT, Nat.reduceSub, Int.reduceNe, Int.reduceEq, Int.reduceLE, Int.reduceLT, Int.reduceToNat, w_i64])))
    have hyl := hP.len
    refine AW.loopF [7, 16, 17, 18, 19, 20, 21, 22, 23, 24, 25, 26, 27, 28, 29, 30, 31, 32, 33, 34, 35, 36, 37, 38, 39, 40, 41, 42, 43, 44, 45, 46, 47, 48] (fun k g M' => ∃ (j : Nat) (zs : List Int), g 7 = .int .i64 j ∧ a ≤ j ∧ j ≤ i ∧ j = k + a ∧ M' = M.set b (.row true 1 (pre ++ ints .u32 zs ++ post)) ∧ PermOn a e xs zs ∧ InsAt a i j zs) (i - a) ?_ ?_
    · exact ⟨i, ys, rfl, by omega, by omega, by omega, rfl, hP, hS.start i⟩
    rintro k g M2 ⟨j, zs, h7, hj1, hj2, hk, rfl, hQ, hI⟩
    have hzl := hQ.len
    have hR := h.put (ys := zs) (by omega)
    simp (disch := omega) only [push_cast, ↓reduceIte, reduceCtorEq, Nat.reduceAdd, Nat.reduceMul, Nat.reduceLeDiff, Nat.reduceLT, Nat.reduceSub, Int.reduceNe, Int.reduceEq, Int.reduceLE, Int.reduceLT, Int.reduceToNat, h7]
    (repeat (first | refine st ?_ | refine AW.label ?_ | refine blockA.here ?_ | refine blockA.exit rfl ?_ | (refine And.intro (by omega) ?_) | (refine AW.condT rfl rfl (by first | rfl | assumption) ?_) | (refine AW.condF rfl rfl (by first | rfl | assumption) ?_) | (refine AL.guT rfl (by first | rfl | assumption) ?_) | ((first | refine AL.ld rfl ?_ | refine AL.bx rfl ?_ | refine AL.al ?_ | refine AL.lt rfl ?_ | refine AL.st rfl rfl ?_ | refine AL.ap rfl rfl ?_ | refine AL.ca rfl ?_ | refine AL.slW (by kernel_rfl) rfl ?_ | refine AL.pu rfl ?_ | refine AL.guF rfl (by first | rfl | assumption) ?_); simp (disch := omega) only [Option.some.injEq, TypeDesc.slice.injEq, exists_eq_left', push_cast, ↓reduceIte, reduceCtorEq, Nat.reduceAdd, Nat.reduceMul, Nat.reduceLeDiff, Nat.reduceLT, Nat.reduceSub, Int.reduceNe, Int.reduceEq, Int.reduceLE, Int.reduceLT, Int.reduceToNat, w_i64])))
    by_cases hja : a < j
    · have hja' : decide ((j : Int) > (a : Int)) = true := decide_eq_true (by omega)
      have hl1 := hR.ld (i := j) (by omega)
      have hl2 := hR.ld (i := j - 1) (by omega)
      have hj' : ((j : Int) - 1).toNat = j - 1 := by omega
      refine AW.dr (by rfl) [0, 1, 2, 3, 4, 5, 6, 7, 8, 9, 10, 11, 12, 13, 14] (by kernel_rfl) (by kernel_rfl) ?_
      (repeat (first | refine st ?_ | refine ADL.hd rfl ?_ | (refine And.intro (by omega) ?_) | ((first | refine AH.ld rfl ?_ | refine AH.bx rfl ?_ | refine AH.al ?_ | refine AH.lt rfl ?_ | refine AH.stN rfl rfl (by kernel_rfl) ?_ | refine AH.apN rfl rfl (by kernel_rfl) ?_ | refine AH.caN rfl (by kernel_rfl) ?_ | refine AH.ca rfl ?_ | refine AH.slW (by kernel_rfl) rfl ?_ | refine AH.pu rfl rfl ?_ | refine AH.guF rfl (by first | rfl | assumption) ?_ | refine AH.guLd rfl (by first | rfl | assumption) rfl ?_ | refine AH.guCa rfl (by first | rfl | assumption) rfl ?_ | refine AH.guPu rfl rfl (by first | rfl | assumption) rfl ?_); simp (disch := omega) only [Option.some.injEq, TypeDesc.slice.injEq, exists_eq_left', push_cast, ↓reduceIte, reduceCtorEq, Nat.reduceAdd, Nat.reduceMul, Nat.reduceLeDiff, Nat.reduceLT, Nat.reduceSub, Int.reduceNe, Int.reduceEq, Int.reduceLE, Int.reduceLT, Int.reduceToNat, hja', hj', hl1, hl2, hlen, w_i64, Int.toNat_natCast])))
      refine (less_spec _ _ _).mono ?_
      rintro r M3 ⟨rfl, rfl⟩
      refine ⟨Fr.refl _, ?_⟩
      (repeat (first | refine st ?_ | refine ADL.hd rfl ?_ | (refine And.intro (by omega) ?_) | ((first | refine AH.ld rfl ?_ | refine AH.bx rfl ?_ | refine AH.al ?_ | refine AH.lt rfl ?_ | refine AH.stN rfl rfl (by kernel_rfl) ?_ | refine AH.apN rfl rfl (by kernel_rfl) ?_ | refine AH.caN rfl (by kernel_rfl) ?_ | refine AH.ca rfl ?_ | refine AH.slW (by kernel_rfl) rfl ?_ | refine AH.pu rfl rfl ?_ | refine AH.guF rfl (by first | rfl | assumption) ?_ | refine AH.guLd rfl (by first | rfl | assumption) rfl ?_ | refine AH.guCa rfl (by first | rfl | assumption) rfl ?_ | refine AH.guPu rfl rfl (by first | rfl | assumption) rfl ?_); simp (disch := omega) only [Option.some.injEq, TypeDesc.slice.injEq, exists_eq_left', push_cast, ↓reduceIte, reduceCtorEq, Nat.reduceAdd, Nat.reduceMul, Nat.reduceLeDiff, Nat.reduceLT, Nat.reduceSub, Int.reduceNe, Int.reduceEq, Int.reduceLE, Int.reduceLT, Int.reduceToNat, hja'])))
      (repeat (first | refine st ?_ | refine AW.label ?_ | refine blockA.here ?_ | refine blockA.exit rfl ?_ | (refine And.intro (by omega) ?_) | (refine AW.condT rfl rfl (by first | rfl | assumption) ?_) | (refine AW.condF rfl rfl (by first | rfl | assumption) ?_) | (refine AL.guT rfl (by first | rfl | assumption) ?_) | ((first | refine AL.ld rfl ?_ | refine AL.bx rfl ?_ | refine AL.al ?_ | refine AL.lt rfl ?_ | refine AL.st rfl rfl ?_ | refine AL.ap rfl rfl ?_ | refine AL.ca rfl ?_ | refine AL.slW (by kernel_rfl) rfl ?_ | refine AL.pu rfl ?_ | refine AL.guF rfl (by first | rfl | assumption) ?_); simp (disch := omega) only [Option.some.injEq, TypeDesc.slice.injEq, exists_eq_left', push_cast, ↓reduceIte, reduceCtorEq, Nat.reduceAdd, Nat.reduceMul, Nat.reduceLeDiff, Nat.reduceLT, Nat.reduceSub, Int.reduceNe, Int.reduceEq, Int.reduceLE, Int.reduceLT, Int.reduceToNat])))
      ((first | refine AL.gu rfl (fun hc => ?_) (fun hc => ?_) | refine AW.condS rfl rfl (fun hc => ?_) (fun hc => ?_)) <;> (try (have hc' := hc; simp only [Bool.not_eq_true', Bool.not_eq_false', Bool.not_true, Bool.not_false, decide_eq_true_eq, decide_eq_false_iff_not, Classical.not_not, Int.not_lt, Int.not_le, gt_iff_lt, ge_iff_le, beq_iff_eq] at hc')))
      · (repeat (first | refine st ?_ | refine AW.label ?_ | refine blockA.here ?_ | refine blockA.exit rfl ?_ | (refine And.intro (by omega) ?_) | (refine AW.condT rfl rfl (by first | rfl | assumption) ?_) | (refine AW.condF rfl rfl (by first | rfl | assumption) ?_) | (refine AL.guT rfl (by first | rfl | assumption) ?_) | ((first | refine AL.ld rfl ?_ | refine AL.bx rfl ?_ | refine AL.al ?_ | refine AL.lt rfl ?_ | refine AL.st rfl rfl ?_ | refine AL.ap rfl rfl ?_ | refine AL.ca rfl ?_ | refine AL.slW (by kernel_rfl) rfl ?_ | refine AL.pu rfl ?_ | refine AL.guF rfl (by first | rfl | assumption) ?_); simp (disch := omega) only [Option.some.injEq, TypeDesc.slice.injEq, exists_eq_left', push_cast, ↓reduceIte, reduceCtorEq, Nat.reduceAdd, Nat.reduceMul, Nat.reduceLeDiff, Nat.reduceLT, Nat.reduceSub, Int.reduceNe, Int.reduceEq, Int.reduceLE, Int.reduceLT, Int.reduceToNat])))
        have hR1 := h.put (ys := zs.set j (zs.getD (j - 1) 0)) (by simp; omega)
        refine AW.dr (by rfl) [0, 1, 2, 3, 4, 5, 6, 7, 8, 9, 10, 11, 12, 13, 14, 15, 16, 17] (by kernel_rfl) (by kernel_rfl) ?_
        (repeat (first | refine st ?_ | refine ADL.hd rfl ?_ | (refine And.intro (by omega) ?_) | ((first | refine AH.ld rfl ?_ | refine AH.bx rfl ?_ | refine AH.al ?_ | refine AH.lt rfl ?_ | refine AH.stN rfl rfl (by kernel_rfl) ?_ | refine AH.apN rfl rfl (by kernel_rfl) ?_ | refine AH.caN rfl (by kernel_rfl) ?_ | refine AH.ca rfl ?_ | refine AH.slW (by kernel_rfl) rfl ?_ | refine AH.pu rfl rfl ?_ | refine AH.guF rfl (by first | rfl | assumption) ?_ | refine AH.guLd rfl (by first | rfl | assumption) rfl ?_ | refine AH.guCa rfl (by first | rfl | assumption) rfl ?_ | refine AH.guPu rfl rfl (by first | rfl | assumption) rfl ?_); simp (disch := omega) only [Option.some.injEq, TypeDesc.slice.injEq, exists_eq_left', push_cast, ↓reduceIte, reduceCtorEq, Nat.reduceAdd, Nat.reduceMul, Nat.reduceLeDiff, Nat.reduceLT, Nat.reduceSub, Int.reduceNe, Int.reduceEq, Int.reduceLE, Int.reduceLT, Int.reduceToNat, hj', hl1, hl2, hlen, w_i64, Int.toNat_natCast, hR.get, hR1.get, hR.room, hR1.room, hR.spl, hR1.spl, Option.some.injEq, exists_eq_left', List.set_set, List.length_set, Blk.put, Blk.ours, Blk.cells])))
        (repeat (first | refine st ?_ | refine AW.label ?_ | refine blockA.here ?_ | refine blockA.exit rfl ?_ | (refine And.intro (by omega) ?_) | (refine AW.condT rfl rfl (by first | rfl | assumption) ?_) | (refine AW.condF rfl rfl (by first | rfl | assumption) ?_) | (refine AL.guT rfl (by first | rfl | assumption) ?_) | ((first | refine AL.ld rfl ?_ | refine AL.bx rfl ?_ | refine AL.al ?_ | refine AL.lt rfl ?_ | refine AL.st rfl rfl ?_ | refine AL.ap rfl rfl ?_ | refine AL.ca rfl ?_ | refine AL.slW (by kernel_rfl) rfl ?_ | refine AL.pu rfl ?_ | refine AL.guF rfl (by first | rfl | assumption) ?_); simp (disch := omega) only [Option.some.injEq, TypeDesc.slice.injEq, exists_eq_left', push_cast, ↓reduceIte, reduceCtorEq, Nat.reduceAdd, Nat.reduceMul, Nat.reduceLeDiff, Nat.reduceLT, Nat.reduceSub, Int.reduceNe, Int.reduceEq, Int.reduceLE, Int.reduceLT, Int.reduceToNat, w_i64])))
        have ej : Value.int .i64 ((j : Int) - 1) = .int .i64 ((j - 1 : Nat) : Int) := congrArg (Value.int .i64) (by omega)
        refine ⟨rfl, k - 1, by omega, j - 1, ej, by omega, by omega, by omega, _, rfl, ?_, ?_⟩
        · exact hQ.trans (PermOn.swap (by omega) (by omega) (by omega) (by omega) (by omega))
        · exact hI.step hja hj2 (by omega) (by simpa using hc')
      · (repeat (first | refine st ?_ | refine AW.label ?_ | refine blockA.here ?_ | refine blockA.exit rfl ?_ | (refine And.intro (by omega) ?_) | (refine AW.condT rfl rfl (by first | rfl | assumption) ?_) | (refine AW.condF rfl rfl (by first | rfl | assumption) ?_) | (refine AL.guT rfl (by first | rfl | assumption) ?_) | ((first | refine AL.ld rfl ?_ | refine AL.bx rfl ?_ | refine AL.al ?_ | refine AL.lt rfl ?_ | refine AL.st rfl rfl ?_ | refine AL.ap rfl rfl ?_ | refine AL.ca rfl ?_ | refine AL.slW (by kernel_rfl) rfl ?_ | refine AL.pu rfl ?_ | refine AL.guF rfl (by first | rfl | assumption) ?_); simp (disch := omega) only [Option.some.injEq, TypeDesc.slice.injEq, exists_eq_left', push_cast, ↓reduceIte, reduceCtorEq, Nat.reduceAdd, Nat.reduceMul, Nat.reduceLeDiff, Nat.reduceLT, Nat.reduceSub, Int.reduceNe, Int.reduceEq, Int.reduceLE, Int.reduceLT, Int.reduceToNat, w_i64])))
        refine ⟨rfl, m - 1, by omega, i + 1, rfl, by omega, by omega, by omega, zs, rfl, hQ, hI.done hj2 (fun _ => by simpa using hc')⟩
    · have hja' : decide ((j : Int) > (a : Int)) = false := decide_eq_false (by omega)
      obtain rfl : j = a := by omega
      refine AW.dr (by rfl) [0, 1, 2, 3, 4, 5, 6, 7, 8, 9, 10, 11, 12, 13, 14] (by kernel_rfl) (by kernel_rfl) ?_
      (repeat (first | refine st ?_ | refine ADL.hd rfl ?_ | (refine And.intro (by omega) ?_) | ((first | refine AH.ld rfl ?_ | refine AH.bx rfl ?_ | refine AH.al ?_ | refine AH.lt rfl ?_ | refine AH.stN rfl rfl (by kernel_rfl) ?_ | refine AH.apN rfl rfl (by kernel_rfl) ?_ | refine AH.caN rfl (by kernel_rfl) ?_ | refine AH.ca rfl ?_ | refine AH.slW (by kernel_rfl) rfl ?_ | refine AH.pu rfl rfl ?_ | refine AH.guF rfl (by first | rfl | assumption) ?_ | refine AH.guLd rfl (by first | rfl | assumption) rfl ?_ | refine AH.guCa rfl (by first | rfl | assumption) rfl ?_ | refine AH.guPu rfl rfl (by first | rfl | assumption) rfl ?_); simp (disch := omega) only [Option.some.injEq, TypeDesc.slice.injEq, exists_eq_left', push_cast, ↓reduceIte, reduceCtorEq, Nat.reduceAdd, Nat.reduceMul, Nat.reduceLeDiff, Nat.reduceLT, Nat.reduceSub, Int.reduceNe, Int.reduceEq, Int.reduceLE, Int.reduceLT, Int.reduceToNat, hja', hlen, w_i64, Int.toNat_natCast])))
      (repeat (first | refine st ?_ | refine AW.label ?_ | refine blockA.here ?_ | refine blockA.exit rfl ?_ | (refine And.intro (by omega) ?_) | (refine AW.condT rfl rfl (by first | rfl | assumption) ?_) | (refine AW.condF rfl rfl (by first | rfl | assumption) ?_) | (refine AL.guT rfl (by first | rfl | assumption) ?_) | ((first | refine AL.ld rfl ?_ | refine AL.bx rfl ?_ | refine AL.al ?_ | refine AL.lt rfl ?_ | refine AL.st rfl rfl ?_ | refine AL.ap rfl rfl ?_ | refine AL.ca rfl ?_ | refine AL.slW (by kernel_rfl) rfl ?_ | refine AL.pu rfl ?_ | refine AL.guF rfl (by first | rfl | assumption) ?_); simp (disch := omega) only [Option.some.injEq, TypeDesc.slice.injEq, exists_eq_left', push_cast, ↓reduceIte, reduceCtorEq, Nat.reduceAdd, Nat.reduceMul, Nat.reduceLeDiff, Nat.reduceLT, Nat.reduceSub, Int.reduceNe, Int.reduceEq, Int.reduceLE, Int.reduceLT, Int.reduceToNat, w_i64])))
      refine ⟨rfl, m - 1, by omega, i + 1, rfl, by omega, by omega, by omega, zs, rfl, hQ, hI.done hj2 (fun h => by omega)⟩
  · (repeat (first | refine st ?_ | refine AW.label ?_ | refine blockA.here ?_ | refine blockA.exit rfl ?_ | (refine And.intro (by omega) ?_) | (refine AW.condT rfl rfl (by first | rfl | assumption) ?_) | (refine AW.condF rfl rfl (by first | rfl | assumption) ?_) | (refine AL.guT rfl (by first | rfl | assumption) ?_) | ((first | refine AL.ld rfl ?_ | refine AL.bx rfl ?_ | refine AL.al ?_ | refine AL.lt rfl ?_ | refine AL.st rfl rfl ?_ | refine AL.ap rfl rfl ?_ | refine AL.ca rfl ?_ | refine AL.slW (by kernel_rfl) rfl ?_ | refine AL.pu rfl ?_ | refine AL.guF rfl (by first | rfl | assumption) ?_); simp (disch := omega) only [Option.some.injEq, TypeDesc.slice.injEq, exists_eq_left', push_cast, ↓reduceIte, reduceCtorEq, Nat.reduceAdd, Nat.reduceMul, Nat.reduceLeDiff, Nat.reduceLT, Nat.reduceSub, Int.reduceNe, Int.reduceEq, Int.reduceLE, Int.reduceLT, Int.reduceToNat])))
    ((first | refine retA.ret (by rfl) ?_ | refine retA.normal (by rfl) ?_); simp (disch := omega) only [push_cast, ↓reduceIte, reduceCtorEq, Nat.reduceAdd, Nat.reduceMul, Nat.reduceLeDiff, Nat.reduceLT, Nat.reduceSub, Int.reduceNe, Int.reduceEq, Int.reduceLE, Int.reduceLT, Int.reduceToNat])
    exact ⟨ys, rfl, hP, fun p q h1 h2 h3 => hS p q h1 h2 (by omega)⟩

end Go.Proofs.Ytbjipdmbdabniaa.Ax
