/- Contracts of functions over the abstract machine. No conditions: lemmas alone. -/
import Derived.Test.YtbjipdmbdabniaaAttrBackLibD
import Derived.Test.YtbjipdmbdabniaaAttrBackSoN
namespace Go.Proofs.Ytbjipdmbdabniaa.Ax
open Go Go.RowKit
set_option linter.unusedVariables false
set_option linter.unusedSimpArgs false
set_option maxRecDepth 100000
set_option maxHeartbeats 20000000
attribute [local irreducible] thenA blockA scopeA retA AL AW AD ADL AH clrK CallA apure aload bload appK ptrK fnK ares szOk planOk okOps
theorem idx_spec (v : Value) (xs : List Int) (y : Int) (M : Mem) (hv : Sl M v 1 (ints .u32 xs)) (hl : xs.length ≤ 1000000000) : CallA Try.prog 49 [v, .int .u32 y] M fun r M' => M' = M ∧ ∃ i : Int, r = .int .i64 i ∧ (0 ≤ i ↔ y ∈ xs) := by
  have hs := hv.isSl
  have hn := hv.lnI
  (refine CallA.of_body Try.func49 rfl (by rfl) ?_; simp only [Try.ntmps49, List.length_cons, List.length_nil, List.replicate, List.cons_append, List.nil_append, Nat.reduceSub, Nat.reduceAdd])
  (repeat (first | refine st ?_ | refine blockA.here ?_ | refine blockA.exit rfl ?_ | (refine And.intro (by omega) ?_) | (refine AW.condT rfl rfl (by first | rfl | assumption) ?_) | (refine AW.condF rfl rfl (by first | rfl | assumption) ?_) | ((first | refine AL.ld rfl ?_ | refine AL.pu rfl ?_); simp (disch := omega) only [push_cast, ↓reduceIte, reduceCtorEq, Nat.reduceAdd, Nat.reduceMul, Nat.reduceLeDiff, Nat.reduceLT, Nat.reduceSub, Int.reduceNe, Int.reduceEq, Int.reduceLE, Int.reduceLT, Int.reduceToNat, hs, hn])))
  refine AW.loopF [4, 5, 8, 9, 10, 11, 12, 13, 14, 15, 16, 17, 18] (fun m f M' => ∃ i : Nat, f 8 = .int .i64 i ∧ i + m = xs.length ∧ M' = M ∧ ∀ q, q < i → xs.getD q 0 ≠ y) xs.length ?_ ?_
  · exact ⟨0, rfl, by omega, rfl, fun q h => by omega⟩
  rintro m f M1 ⟨i, h8, hi, rfl, hno⟩
  simp (disch := omega) only [push_cast, ↓reduceIte, reduceCtorEq, Nat.reduceAdd, Nat.reduceMul, Nat.reduceLeDiff, Nat.reduceLT, Nat.reduceSub, Int.reduceNe, Int.reduceEq, Int.reduceLE, Int.reduceLT, Int.reduceToNat, h8]
  (repeat (first | refine st ?_ | refine blockA.here ?_ | refine blockA.exit rfl ?_ | (refine And.intro (by omega) ?_) | (refine AW.condT rfl rfl (by first | rfl | assumption) ?_) | (refine AW.condF rfl rfl (by first | rfl | assumption) ?_) | ((first | refine AL.ld rfl ?_ | refine AL.pu rfl ?_); simp (disch := omega) only [push_cast, ↓reduceIte, reduceCtorEq, Nat.reduceAdd, Nat.reduceMul, Nat.reduceLeDiff, Nat.reduceLT, Nat.reduceSub, Int.reduceNe, Int.reduceEq, Int.reduceLE, Int.reduceLT, Int.reduceToNat])))
  ((first | refine AL.gu rfl (fun h => ?_) (fun h => ?_) | refine AW.condS rfl rfl (fun h => ?_) (fun h => ?_)) <;> (try (have h' := h; simp only [Bool.not_eq_true', Bool.not_eq_false', Bool.not_true, Bool.not_false, decide_eq_true_eq, decide_eq_false_iff_not, Classical.not_not, Int.not_lt, Int.not_le, gt_iff_lt, ge_iff_le, beq_iff_eq] at h')))
  · have hil : i < xs.length := by omega
    have hld := hv.ldN (P := Try.prog) (ty := 25) (i := i) (by kernel_rfl) hil
    (repeat (first | refine st ?_ | refine blockA.here ?_ | refine blockA.exit rfl ?_ | (refine And.intro (by omega) ?_) | (refine AW.condT rfl rfl (by first | rfl | assumption) ?_) | (refine AW.condF rfl rfl (by first | rfl | assumption) ?_) | ((first | refine AL.ld rfl ?_ | refine AL.pu rfl ?_); simp (disch := omega) only [push_cast, ↓reduceIte, reduceCtorEq, Nat.reduceAdd, Nat.reduceMul, Nat.reduceLeDiff, Nat.reduceLT, Nat.reduceSub, Int.reduceNe, Int.reduceEq, Int.reduceLE, Int.reduceLT, Int.reduceToNat, hs, hn, hld, Int.toNat_natCast])))
    ((first | refine AL.gu rfl (fun he => ?_) (fun he => ?_) | refine AW.condS rfl rfl (fun he => ?_) (fun he => ?_)) <;> (try (have he' := he; simp only [Bool.not_eq_true', Bool.not_eq_false', Bool.not_true, Bool.not_false, decide_eq_true_eq, decide_eq_false_iff_not, Classical.not_not, Int.not_lt, Int.not_le, gt_iff_lt, ge_iff_le, beq_iff_eq] at he')))
    · (repeat (first | refine st ?_ | refine blockA.here ?_ | refine blockA.exit rfl ?_ | (refine And.intro (by omega) ?_) | (refine AW.condT rfl rfl (by first | rfl | assumption) ?_) | (refine AW.condF rfl rfl (by first | rfl | assumption) ?_) | ((first | refine AL.ld rfl ?_ | refine AL.pu rfl ?_); simp (disch := omega) only [push_cast, ↓reduceIte, reduceCtorEq, Nat.reduceAdd, Nat.reduceMul, Nat.reduceLeDiff, Nat.reduceLT, Nat.reduceSub, Int.reduceNe, Int.reduceEq, Int.reduceLE, Int.reduceLT, Int.reduceToNat])))
      ((first | refine retA.ret (by rfl) ?_ | refine retA.normal (by rfl) ?_); simp (disch := omega) only [push_cast, ↓reduceIte, reduceCtorEq, Nat.reduceAdd, Nat.reduceMul, Nat.reduceLeDiff, Nat.reduceLT, Nat.reduceSub, Int.reduceNe, Int.reduceEq, Int.reduceLE, Int.reduceLT, Int.reduceToNat])
      exact ⟨i, rfl, fun _ => by rw [he']; exact getD_mem hil, fun _ => by omega⟩
    · (repeat (first | refine st ?_ | refine blockA.here ?_ | refine blockA.exit rfl ?_ | (refine And.intro (by omega) ?_) | (refine AW.condT rfl rfl (by first | rfl | assumption) ?_) | (refine AW.condF rfl rfl (by first | rfl | assumption) ?_) | ((first | refine AL.ld rfl ?_ | refine AL.pu rfl ?_); simp (disch := omega) only [push_cast, ↓reduceIte, reduceCtorEq, Nat.reduceAdd, Nat.reduceMul, Nat.reduceLeDiff, Nat.reduceLT, Nat.reduceSub, Int.reduceNe, Int.reduceEq, Int.reduceLE, Int.reduceLT, Int.reduceToNat, w_i64])))
      refine ⟨rfl, m - 1, by omega, i + 1, rfl, by omega, rfl, fun q hq => ?_⟩
      by_cases e : q = i
      · rw [e]; exact fun h => he' h.symm
      · exact hno q (by omega)
  · (repeat (first | refine st ?_ | refine blockA.here ?_ | refine blockA.exit rfl ?_ | (refine And.intro (by omega) ?_) | (refine AW.condT rfl rfl (by first | rfl | assumption) ?_) | (refine AW.condF rfl rfl (by first | rfl | assumption) ?_) | ((first | refine AL.ld rfl ?_ | refine AL.pu rfl ?_); simp (disch := omega) only [push_cast, ↓reduceIte, reduceCtorEq, Nat.reduceAdd, Nat.reduceMul, Nat.reduceLeDiff, Nat.reduceLT, Nat.reduceSub, Int.reduceNe, Int.reduceEq, Int.reduceLE, Int.reduceLT, Int.reduceToNat])))
    ((first | refine retA.ret (by rfl) ?_ | refine retA.normal (by rfl) ?_); simp (disch := omega) only [push_cast, ↓reduceIte, reduceCtorEq, Nat.reduceAdd, Nat.reduceMul, Nat.reduceLeDiff, Nat.reduceLT, Nat.reduceSub, Int.reduceNe, Int.reduceEq, Int.reduceLE, Int.reduceLT, Int.reduceToNat])
    refine ⟨-1, rfl, fun h => absurd h (by decide), fun h => ?_⟩
    obtain ⟨q, hq, e⟩ := List.mem_iff_getElem.1 h
    exact absurd ((getD_lt hq).trans e) (hno q (by omega))
theorem has_spec (v : Value) (xs : List Int) (y : Int) (M : Mem) (hv : Sl M v 1 (ints .u32 xs)) (hl : xs.length ≤ 1000000000) : CallA Try.prog 42 [v, .int .u32 y] M fun r M' => M' = M ∧ r = .bool (decide (y ∈ xs)) := by
  (refine CallA.of_body Try.func42 rfl (by rfl) ?_; simp only [Try.ntmps42, List.length_cons, List.length_nil, List.replicate, List.cons_append, List.nil_append, Nat.reduceSub, Nat.reduceAdd])
  (repeat (first | refine st ?_ | (refine And.intro (by omega) ?_) | ((first | refine AL.ca rfl ?_ | refine AL.pu rfl ?_); simp (disch := omega) only [push_cast, ↓reduceIte, reduceCtorEq, Nat.reduceAdd, Nat.reduceMul, Nat.reduceLeDiff, Nat.reduceLT, Nat.reduceSub, Int.reduceNe, Int.reduceEq, Int.reduceLE, Int.reduceLT, Int.reduceToNat])))
  refine (idx_spec v xs y M hv hl).mono ?_
  rintro r M1 ⟨rfl, i, rfl, hi⟩
  (repeat (first | refine st ?_ | (refine And.intro (by omega) ?_) | ((first | refine AL.ca rfl ?_ | refine AL.pu rfl ?_); simp (disch := omega) only [push_cast, ↓reduceIte, reduceCtorEq, Nat.reduceAdd, Nat.reduceMul, Nat.reduceLeDiff, Nat.reduceLT, Nat.reduceSub, Int.reduceNe, Int.reduceEq, Int.reduceLE, Int.reduceLT, Int.reduceToNat])))
  ((first | refine retA.ret (by rfl) ?_ | refine retA.normal (by rfl) ?_); simp (disch := omega) only [push_cast, ↓reduceIte, reduceCtorEq, Nat.reduceAdd, Nat.reduceMul, Nat.reduceLeDiff, Nat.reduceLT, Nat.reduceSub, Int.reduceNe, Int.reduceEq, Int.reduceLE, Int.reduceLT, Int.reduceToNat])
  simp only [hi, ge_iff_le]
/-- The first n numbers, each once where it stands again at once. -/
def ddN (xs : List Int) : Nat → List Int
  | 0 => []
  | n + 1 => if 0 < n ∧ xs.getD n 0 = xs.getD (n - 1) 0 then ddN xs n else ddN xs n ++ [xs.getD n 0]
theorem ddN_plain {xs : List Int} : ∀ {n}, (∀ q, 0 < q → q < n → xs.getD q 0 ≠ xs.getD (q - 1) 0) → n ≤ xs.length → ddN xs n = xs.take n
  | 0, _, _ => by simp [ddN]
  | n + 1, h, hl => by
    unfold ddN
    rw [if_neg (fun hc => h n hc.1 (by omega) hc.2), ddN_plain (fun q h1 h2 => h q h1 (by omega)) (by omega), take_snocI (by omega)]
theorem ddN_mem {xs : List Int} {x : Int} : ∀ {n}, x ∈ ddN xs n ↔ ∃ q, q < n ∧ xs.getD q 0 = x
  | 0 => by simp [ddN]
  | n + 1 => by
    have ih := ddN_mem (xs := xs) (x := x) (n := n)
    unfold ddN
    split
    · rename_i hc
      rw [ih]
      constructor
      · rintro ⟨q, h1, h2⟩; exact ⟨q, by omega, h2⟩
      · rintro ⟨q, h1, h2⟩
        by_cases e : q = n
        · subst e; exact ⟨q - 1, by omega, hc.2.symm.trans h2⟩
        · exact ⟨q, by omega, h2⟩
    · rw [List.mem_append, ih, List.mem_singleton]
      constructor
      · rintro (⟨q, h1, h2⟩ | h)
        · exact ⟨q, by omega, h2⟩
        · exact ⟨n, by omega, h.symm⟩
      · rintro ⟨q, h1, h2⟩
        by_cases e : q = n
        · subst e; exact .inr h2.symm
        · exact .inl ⟨q, by omega, h2⟩
theorem ddN_rise {xs : List Int} : ∀ {n}, SortOn 0 n xs → (ddN xs n).Pairwise (· < ·)
  | 0, _ => .nil
  | n + 1, h => by
    have ih := ddN_rise (xs := xs) (n := n) (fun i j h1 h2 h3 => h i j h1 h2 (by omega))
    unfold ddN
    split
    · exact ih
    · rename_i hc
      rw [List.pairwise_append]
      refine ⟨ih, by simp, fun x hx y hy => ?_⟩
      obtain ⟨q, h1, h2⟩ := ddN_mem.1 hx
      obtain rfl := List.mem_singleton.1 hy
      have l1 := h q n (by omega) h1 (by omega)
      by_cases e : 0 < n
      · have l2 : q = n - 1 ∨ xs.getD q 0 ≤ xs.getD (n - 1) 0 := by
          by_cases e : q = n - 1
          · exact .inl e
          · exact .inr (h q (n - 1) (by omega) (by omega) (by omega))
        have l3 := h (n - 1) n (by omega) (by omega) (by omega)
        have l4 : xs.getD n 0 ≠ xs.getD (n - 1) 0 := fun e' => hc ⟨e, e'⟩
        rcases l2 with rfl | l2
        · omega
        · omega
      · omega
theorem comp_spec (v : Value) (xs : List Int) (M : Mem) (hv : Own M v 1 (ints .u32 xs)) (hl : xs.length ≤ 1000000000) :
    CallA Try.prog 37 [v] M fun r M' => Sl M' r 1 (ints .u32 (ddN xs xs.length)) ∧ Fr M M' (blkOf v) ∧ (∀ b ∈ blkOf r, b ∈ blkOf v) := by
  have hs := hv.sl.isSl
  have hn := hv.sl.lnI
  (refine CallA.of_body Try.func37 rfl (by rfl) ?_; simp only [Try.ntmps37, List.length_cons, List.length_nil, List.replicate, List.cons_append, List.nil_append, Nat.reduceSub, Nat.reduceAdd])
  (repeat (first | refine st ?_ | refine ADL.hd rfl ?_ | refine blockA.here ?_ | refine blockA.exit rfl ?_ | (refine And.intro (by omega) ?_) | (refine AW.condT rfl rfl (by first | rfl | assumption) ?_) | (refine AW.condF rfl rfl (by first | rfl | assumption) ?_) | refine AW.dr (id := 6) (by rfl) [0, 1, 2, 3, 4, 5, 6, 7, 8, 9] (by kernel_rfl) (by kernel_rfl) ?_ | refine AW.dr (id := 11) (by rfl) [0, 1, 2, 3, 4, 5, 6, 7, 8, 9] (by kernel_rfl) (by kernel_rfl) ?_ | ((first | refine AL.ld rfl ?_ | refine AL.st rfl rfl ?_ | refine AL.clr rfl ?_ | refine AL.slW (by kernel_rfl) rfl ?_ | refine AL.pu rfl ?_ | refine AH.ld rfl ?_ | refine AH.stN rfl rfl (by kernel_rfl) ?_ | refine AH.slW (by kernel_rfl) rfl ?_ | refine AH.pu rfl rfl ?_); simp (disch := omega) only [Option.some.injEq, TypeDesc.slice.injEq, exists_eq_left', push_cast, ↓reduceIte, reduceCtorEq, Nat.reduceAdd, Nat.reduceMul, Nat.reduceLeDiff, Nat.reduceLT, Nat.reduceSub, Int.reduceNe, Int.reduceEq, Int.reduceLE, Int.reduceLT, Int.reduceToNat, hs, hn])))
  ((first | refine AL.gu rfl (fun h2 => ?_) (fun h2 => ?_) | refine AW.condS rfl rfl (fun h2 => ?_) (fun h2 => ?_)) <;> (try (have h2' := h2; simp only [Bool.not_eq_true', Bool.not_eq_false', Bool.not_true, Bool.not_false, decide_eq_true_eq, decide_eq_false_iff_not, Classical.not_not, Int.not_lt, Int.not_le, gt_iff_lt, ge_iff_le, beq_iff_eq] at h2')))
  · (repeat (first | refine st ?_ | refine ADL.hd rfl ?_ | refine blockA.here ?_ | refine blockA.exit rfl ?_ | (refine And.intro (by omega) ?_) | (refine AW.condT rfl rfl (by first | rfl | assumption) ?_) | (refine AW.condF rfl rfl (by first | rfl | assumption) ?_) | refine AW.dr (id := 6) (by rfl) [0, 1, 2, 3, 4, 5, 6, 7, 8, 9] (by kernel_rfl) (by kernel_rfl) ?_ | refine AW.dr (id := 11) (by rfl) [0, 1, 2, 3, 4, 5, 6, 7, 8, 9] (by kernel_rfl) (by kernel_rfl) ?_ | ((first | refine AL.ld rfl ?_ | refine AL.st rfl rfl ?_ | refine AL.clr rfl ?_ | refine AL.slW (by kernel_rfl) rfl ?_ | refine AL.pu rfl ?_ | refine AH.ld rfl ?_ | refine AH.stN rfl rfl (by kernel_rfl) ?_ | refine AH.slW (by kernel_rfl) rfl ?_ | refine AH.pu rfl rfl ?_); simp (disch := omega) only [Option.some.injEq, TypeDesc.slice.injEq, exists_eq_left', push_cast, ↓reduceIte, reduceCtorEq, Nat.reduceAdd, Nat.reduceMul, Nat.reduceLeDiff, Nat.reduceLT, Nat.reduceSub, Int.reduceNe, Int.reduceEq, Int.reduceLE, Int.reduceLT, Int.reduceToNat])))
    ((first | refine retA.ret (by rfl) ?_ | refine retA.normal (by rfl) ?_); simp (disch := omega) only [push_cast, ↓reduceIte, reduceCtorEq, Nat.reduceAdd, Nat.reduceMul, Nat.reduceLeDiff, Nat.reduceLT, Nat.reduceSub, Int.reduceNe, Int.reduceEq, Int.reduceLE, Int.reduceLT, Int.reduceToNat])
    rw [ddN_plain (fun q h1 h2 => by omega) (Nat.le_refl _), List.take_length]
    exact ⟨hv.sl, (Fr.refl M).cut (by simp), fun b h => h⟩
  · rcases hv.rw with ⟨rfl, h0⟩ | ⟨b, off, c, pre, rfl, hR⟩
    · exact absurd h2' (by simp)
    have hbk : blkOf (.slice (some ⟨b, off, none⟩) xs.length c) = [b] := by show (if c = 0 then [] else [b]) = [b]; rw [if_neg hR.pos]
    (repeat (first | refine st ?_ | refine ADL.hd rfl ?_ | refine blockA.here ?_ | refine blockA.exit rfl ?_ | (refine And.intro (by omega) ?_) | (refine AW.condT rfl rfl (by first | rfl | assumption) ?_) | (refine AW.condF rfl rfl (by first | rfl | assumption) ?_) | refine AW.dr (id := 6) (by rfl) [0, 1, 2, 3, 4, 5, 6, 7, 8, 9] (by kernel_rfl) (by kernel_rfl) ?_ | refine AW.dr (id := 11) (by rfl) [0, 1, 2, 3, 4, 5, 6, 7, 8, 9] (by kernel_rfl) (by kernel_rfl) ?_ | ((first | refine AL.ld rfl ?_ | refine AL.st rfl rfl ?_ | refine AL.clr rfl ?_ | refine AL.slW (by kernel_rfl) rfl ?_ | refine AL.pu rfl ?_ | refine AH.ld rfl ?_ | refine AH.stN rfl rfl (by kernel_rfl) ?_ | refine AH.slW (by kernel_rfl) rfl ?_ | refine AH.pu rfl rfl ?_); simp (disch := omega) only [Option.some.injEq, TypeDesc.slice.injEq, exists_eq_left', push_cast, ↓reduceIte, reduceCtorEq, Nat.reduceAdd, Nat.reduceMul, Nat.reduceLeDiff, Nat.reduceLT, Nat.reduceSub, Int.reduceNe, Int.reduceEq, Int.reduceLE, Int.reduceLT, Int.reduceToNat])))
    refine AW.loopF [2, 3, 4, 5, 10, 11, 12, 13, 14, 15, 16, 17, 18, 19, 20, 21, 22, 23, 24, 25, 26, 27, 28, 29, 30, 31, 32, 33, 34, 35, 36, 37, 38, 39, 40, 41, 42, 43, 44, 45, 46, 47, 48, 49, 50, 51, 52, 53, 54, 55, 56, 57, 58, 59] (fun m f M' => ∃ k : Nat, f 3 = .int .i64 k ∧ 1 ≤ k ∧ k ≤ xs.length ∧ k + m = xs.length ∧ M' = M ∧ ∀ q, 0 < q → q < k → xs.getD q 0 ≠ xs.getD (q - 1) 0) (xs.length - 1) ?_ ?_
    · exact ⟨1, rfl, by omega, by omega, by omega, rfl, fun q h1 h2 => by omega⟩
    rintro m f M1 ⟨k, h3, hk1, hk2, hm, rfl, hno⟩
    simp (disch := omega) only [push_cast, ↓reduceIte, reduceCtorEq, Nat.reduceAdd, Nat.reduceMul, Nat.reduceLeDiff, Nat.reduceLT, Nat.reduceSub, Int.reduceNe, Int.reduceEq, Int.reduceLE, Int.reduceLT, Int.reduceToNat, h3]
    (repeat (first | refine st ?_ | refine ADL.hd rfl ?_ | refine blockA.here ?_ | refine blockA.exit rfl ?_ | (refine And.intro (by omega) ?_) | (refine AW.condT rfl rfl (by first | rfl | assumption) ?_) | (refine AW.condF rfl rfl (by first | rfl | assumption) ?_) | refine AW.dr (id := 6) (by rfl) [0, 1, 2, 3, 4, 5, 6, 7, 8, 9] (by kernel_rfl) (by kernel_rfl) ?_ | refine AW.dr (id := 11) (by rfl) [0, 1, 2, 3, 4, 5, 6, 7, 8, 9] (by kernel_rfl) (by kernel_rfl) ?_ | ((first | refine AL.ld rfl ?_ | refine AL.st rfl rfl ?_ | refine AL.clr rfl ?_ | refine AL.slW (by kernel_rfl) rfl ?_ | refine AL.pu rfl ?_ | refine AH.ld rfl ?_ | refine AH.stN rfl rfl (by kernel_rfl) ?_ | refine AH.slW (by kernel_rfl) rfl ?_ | refine AH.pu rfl rfl ?_); simp (disch := omega) only [Option.some.injEq, TypeDesc.slice.injEq, exists_eq_left', push_cast, ↓reduceIte, reduceCtorEq, Nat.reduceAdd, Nat.reduceMul, Nat.reduceLeDiff, Nat.reduceLT, Nat.reduceSub, Int.reduceNe, Int.reduceEq, Int.reduceLE, Int.reduceLT, Int.reduceToNat])))
    ((first | refine AL.gu rfl (fun hlt => ?_) (fun hlt => ?_) | refine AW.condS rfl rfl (fun hlt => ?_) (fun hlt => ?_)) <;> (try (have hlt' := hlt; simp only [Bool.not_eq_true', Bool.not_eq_false', Bool.not_true, Bool.not_false, decide_eq_true_eq, decide_eq_false_iff_not, Classical.not_not, Int.not_lt, Int.not_le, gt_iff_lt, ge_iff_le, beq_iff_eq] at hlt')))
    · have l1 := hR.ld (i := k) (by omega)
      have l2 := hR.ld (i := k - 1) (by omega)
      (repeat (first | refine st ?_ | refine ADL.hd rfl ?_ | refine blockA.here ?_ | refine blockA.exit rfl ?_ | (refine And.intro (by omega) ?_) | (refine AW.condT rfl rfl (by first | rfl | assumption) ?_) | (refine AW.condF rfl rfl (by first | rfl | assumption) ?_) | refine AW.dr (id := 6) (by rfl) [0, 1, 2, 3, 4, 5, 6, 7, 8, 9] (by kernel_rfl) (by kernel_rfl) ?_ | refine AW.dr (id := 11) (by rfl) [0, 1, 2, 3, 4, 5, 6, 7, 8, 9] (by kernel_rfl) (by kernel_rfl) ?_ | ((first | refine AL.ld rfl ?_ | refine AL.st rfl rfl ?_ | refine AL.clr rfl ?_ | refine AL.slW (by kernel_rfl) rfl ?_ | refine AL.pu rfl ?_ | refine AH.ld rfl ?_ | refine AH.stN rfl rfl (by kernel_rfl) ?_ | refine AH.slW (by kernel_rfl) rfl ?_ | refine AH.pu rfl rfl ?_); simp (disch := omega) only [Option.some.injEq, TypeDesc.slice.injEq, exists_eq_left', push_cast, ↓reduceIte, reduceCtorEq, Nat.reduceAdd, Nat.reduceMul, Nat.reduceLeDiff, Nat.reduceLT, Nat.reduceSub, Int.reduceNe, Int.reduceEq, Int.reduceLE, Int.reduceLT, Int.reduceToNat, l1, l2, tn_sub1, w_i64, Int.toNat_natCast])))
      ((first | refine AL.gu rfl (fun he => ?_) (fun he => ?_) | refine AW.condS rfl rfl (fun he => ?_) (fun he => ?_)) <;> (try (have he' := he; simp only [Bool.not_eq_true', Bool.not_eq_false', Bool.not_true, Bool.not_false, decide_eq_true_eq, decide_eq_false_iff_not, Classical.not_not, Int.not_lt, Int.not_le, gt_iff_lt, ge_iff_le, beq_iff_eq] at he')))
      · have hsz := hv.sl.sz
        have hbl : b < M1.length := hR.lt
        have hfr : aslice (.slice (some ⟨b, off, none⟩) xs.length c) 1 (some (.int .i64 (k : Int))) none none = some (.slice (some ⟨b, off + k, none⟩) (xs.length - k) (capSub c k)) := by
          rw [aslice_from (by omega), Nat.mul_one]
        (repeat (first | refine st ?_ | refine ADL.hd rfl ?_ | refine blockA.here ?_ | refine blockA.exit rfl ?_ | (refine And.intro (by omega) ?_) | (refine AW.condT rfl rfl (by first | rfl | assumption) ?_) | (refine AW.condF rfl rfl (by first | rfl | assumption) ?_) | refine AW.dr (id := 6) (by rfl) [0, 1, 2, 3, 4, 5, 6, 7, 8, 9] (by kernel_rfl) (by kernel_rfl) ?_ | refine AW.dr (id := 11) (by rfl) [0, 1, 2, 3, 4, 5, 6, 7, 8, 9] (by kernel_rfl) (by kernel_rfl) ?_ | ((first | refine AL.ld rfl ?_ | refine AL.st rfl rfl ?_ | refine AL.clr rfl ?_ | refine AL.slW (by kernel_rfl) rfl ?_ | refine AL.pu rfl ?_ | refine AH.ld rfl ?_ | refine AH.stN rfl rfl (by kernel_rfl) ?_ | refine AH.slW (by kernel_rfl) rfl ?_ | refine AH.pu rfl rfl ?_); simp (disch := omega) only [Option.some.injEq, TypeDesc.slice.injEq, exists_eq_left', push_cast, ↓reduceIte, reduceCtorEq, Nat.reduceAdd, Nat.reduceMul, Nat.reduceLeDiff, Nat.reduceLT, Nat.reduceSub, Int.reduceNe, Int.reduceEq, Int.reduceLE, Int.reduceLT, Int.reduceToNat, hsz, hfr, Option.map_none, Option.map_some])))
        refine AW.loopF [3, 5, 29, 30, 31, 32, 33, 34, 35, 36, 37, 38, 39, 40, 41, 42, 43, 44, 45, 46, 47, 48, 49, 50, 51, 52, 53] (fun m g M' => ∃ q : Nat, g 3 = .int .i64 q ∧ ∃ u : Nat, g 5 = .int .i64 u ∧ 1 ≤ u ∧ k + u + m = xs.length ∧ k ≤ q ∧ q + 1 ≤ k + u ∧ ∃ ys, M' = M1.set b (.row true 1 (pre ++ ints .u32 ys ++ [])) ∧ ys.length = xs.length ∧ ys.take q = ddN xs (k + u) ∧ ∀ p, q ≤ p → p < xs.length → ys.getD p 0 = xs.getD p 0) (xs.length - k - 1) ?_ ?_
        · refine ⟨k, rfl, 1, rfl, by omega, by omega, by omega, by omega, xs, hR.same.symm, rfl, ?_, fun p h1 h2 => rfl⟩
          rw [show k + 1 = k + 1 from rfl, ddN, if_pos ⟨by omega, he'⟩, ddN_plain hno hk2]
        clear l1 l2 hfr h3 hlt hlt' hsz hno
        rintro m2 g M2 ⟨q, h3, u, h5, hu1, hum, hq1, hq2, ys, rfl, hyl, hyt, hyo⟩
        have hR2 := hR.put (ys := ys) hyl
        have hsz : szOk (M1.set b (.row true 1 (pre ++ ints .u32 ys ++ []))) (.slice (some ⟨b, off, none⟩) xs.length c) 1 := hR2.own.sl.sz
        simp (disch := omega) only [push_cast, ↓reduceIte, reduceCtorEq, Nat.reduceAdd, Nat.reduceMul, Nat.reduceLeDiff, Nat.reduceLT, Nat.reduceSub, Int.reduceNe, Int.reduceEq, Int.reduceLE, Int.reduceLT, Int.reduceToNat, h3, h5]
        (repeat (first | refine st ?_ | refine ADL.hd rfl ?_ | refine blockA.here ?_ | refine blockA.exit rfl ?_ | (refine And.intro (by omega) ?_) | (refine AW.condT rfl rfl (by first | rfl | assumption) ?_) | (refine AW.condF rfl rfl (by first | rfl | assumption) ?_) | refine AW.dr (id := 6) (by rfl) [0, 1, 2, 3, 4, 5, 6, 7, 8, 9] (by kernel_rfl) (by kernel_rfl) ?_ | refine AW.dr (id := 11) (by rfl) [0, 1, 2, 3, 4, 5, 6, 7, 8, 9] (by kernel_rfl) (by kernel_rfl) ?_ | ((first | refine AL.ld rfl ?_ | refine AL.st rfl rfl ?_ | refine AL.clr rfl ?_ | refine AL.slW (by kernel_rfl) rfl ?_ | refine AL.pu rfl ?_ | refine AH.ld rfl ?_ | refine AH.stN rfl rfl (by kernel_rfl) ?_ | refine AH.slW (by kernel_rfl) rfl ?_ | refine AH.pu rfl rfl ?_); simp (disch := omega) only [Option.some.injEq, TypeDesc.slice.injEq, exists_eq_left', push_cast, ↓reduceIte, reduceCtorEq, Nat.reduceAdd, Nat.reduceMul, Nat.reduceLeDiff, Nat.reduceLT, Nat.reduceSub, Int.reduceNe, Int.reduceEq, Int.reduceLE, Int.reduceLT, Int.reduceToNat])))
        ((first | refine AL.gu rfl (fun hw => ?_) (fun hw => ?_) | refine AW.condS rfl rfl (fun hw => ?_) (fun hw => ?_)) <;> (try (have hw' := hw; simp only [Bool.not_eq_true', Bool.not_eq_false', Bool.not_true, Bool.not_false, decide_eq_true_eq, decide_eq_false_iff_not, Classical.not_not, Int.not_lt, Int.not_le, gt_iff_lt, ge_iff_le, beq_iff_eq] at hw')))
        · have l1 : aload Try.prog 25 (M1.set b (.row true 1 (pre ++ ints .u32 ys ++ []))) b (off + k + u) = some (.int .u32 (xs.getD (k + u) 0)) := by
            rw [Nat.add_assoc, hR2.ld (by omega), hyo (k + u) (by omega) (by omega)]
          have l2 : aload Try.prog 25 (M1.set b (.row true 1 (pre ++ ints .u32 ys ++ []))) b (off + k + (u - 1)) = some (.int .u32 (xs.getD (k + u - 1) 0)) := by
            rw [Nat.add_assoc, hR2.ld (by omega), show k + (u - 1) = k + u - 1 by omega, hyo (k + u - 1) (by omega) (by omega)]
          (repeat (first | refine st ?_ | refine ADL.hd rfl ?_ | refine blockA.here ?_ | refine blockA.exit rfl ?_ | (refine And.intro (by omega) ?_) | (refine AW.condT rfl rfl (by first | rfl | assumption) ?_) | (refine AW.condF rfl rfl (by first | rfl | assumption) ?_) | refine AW.dr (id := 6) (by rfl) [0, 1, 2, 3, 4, 5, 6, 7, 8, 9] (by kernel_rfl) (by kernel_rfl) ?_ | refine AW.dr (id := 11) (by rfl) [0, 1, 2, 3, 4, 5, 6, 7, 8, 9] (by kernel_rfl) (by kernel_rfl) ?_ | ((first | refine AL.ld rfl ?_ | refine AL.st rfl rfl ?_ | refine AL.clr rfl ?_ | refine AL.slW (by kernel_rfl) rfl ?_ | refine AL.pu rfl ?_ | refine AH.ld rfl ?_ | refine AH.stN rfl rfl (by kernel_rfl) ?_ | refine AH.slW (by kernel_rfl) rfl ?_ | refine AH.pu rfl rfl ?_); simp (disch := omega) only [Option.some.injEq, TypeDesc.slice.injEq, exists_eq_left', push_cast, ↓reduceIte, reduceCtorEq, Nat.reduceAdd, Nat.reduceMul, Nat.reduceLeDiff, Nat.reduceLT, Nat.reduceSub, Int.reduceNe, Int.reduceEq, Int.reduceLE, Int.reduceLT, Int.reduceToNat, l1, l2, tn_sub1, w_i64, Int.toNat_natCast])))
          ((first | refine AL.gu rfl (fun hne => ?_) (fun hne => ?_) | refine AW.condS rfl rfl (fun hne => ?_) (fun hne => ?_)) <;> (try (have hne' := hne; simp only [Bool.not_eq_true', Bool.not_eq_false', Bool.not_true, Bool.not_false, decide_eq_true_eq, decide_eq_false_iff_not, Classical.not_not, Int.not_lt, Int.not_le, gt_iff_lt, ge_iff_le, beq_iff_eq] at hne')))
          · have hR3 := hR.put (ys := ys.set q (xs.getD (k + u) 0)) (by simp; omega)
            (repeat (first | refine st ?_ | refine ADL.hd rfl ?_ | refine blockA.here ?_ | refine blockA.exit rfl ?_ | (refine And.intro (by omega) ?_) | (refine AW.condT rfl rfl (by first | rfl | assumption) ?_) | (refine AW.condF rfl rfl (by first | rfl | assumption) ?_) | refine AW.dr (id := 6) (by rfl) [0, 1, 2, 3, 4, 5, 6, 7, 8, 9] (by kernel_rfl) (by kernel_rfl) ?_ | refine AW.dr (id := 11) (by rfl) [0, 1, 2, 3, 4, 5, 6, 7, 8, 9] (by kernel_rfl) (by kernel_rfl) ?_ | ((first | refine AL.ld rfl ?_ | refine AL.st rfl rfl ?_ | refine AL.clr rfl ?_ | refine AL.slW (by kernel_rfl) rfl ?_ | refine AL.pu rfl ?_ | refine AH.ld rfl ?_ | refine AH.stN rfl rfl (by kernel_rfl) ?_ | refine AH.slW (by kernel_rfl) rfl ?_ | refine AH.pu rfl rfl ?_); simp (disch := omega) only [Option.some.injEq, TypeDesc.slice.injEq, exists_eq_left', push_cast, ↓reduceIte, reduceCtorEq, Nat.reduceAdd, Nat.reduceMul, Nat.reduceLeDiff, Nat.reduceLT, Nat.reduceSub, Int.reduceNe, Int.reduceEq, Int.reduceLE, Int.reduceLT, Int.reduceToNat, l1, tn_sub1, w_i64, Int.toNat_natCast, hR2.get, hR2.room, hR2.spl, Option.some.injEq, exists_eq_left', List.set_set, List.length_set, Blk.put, Blk.ours, Blk.cells])))
            refine ⟨rfl, m2 - 1, by omega, q + 1, rfl, u + 1, rfl, by omega, by omega, by omega, by omega, ys.set q (xs.getD (k + u) 0), rfl, by simp; omega, ?_, fun p h1 h2 => ?_⟩
            · rw [show k + (u + 1) = k + u + 1 by omega, ddN, if_neg (fun hc => hne' hc.2), ← hyt, take_snocI (by simp; omega), List.take_set_of_le (by omega)]
              rw [getD_lt (by simp; omega), List.getElem_set_self]
            · rw [List.getD_eq_getElem?_getD, List.getElem?_set_ne (by omega), ← List.getD_eq_getElem?_getD]
              exact hyo p (by omega) h2
          · (repeat (first | refine st ?_ | refine ADL.hd rfl ?_ | refine blockA.here ?_ | refine blockA.exit rfl ?_ | (refine And.intro (by omega) ?_) | (refine AW.condT rfl rfl (by first | rfl | assumption) ?_) | (refine AW.condF rfl rfl (by first | rfl | assumption) ?_) | refine AW.dr (id := 6) (by rfl) [0, 1, 2, 3, 4, 5, 6, 7, 8, 9] (by kernel_rfl) (by kernel_rfl) ?_ | refine AW.dr (id := 11) (by rfl) [0, 1, 2, 3, 4, 5, 6, 7, 8, 9] (by kernel_rfl) (by kernel_rfl) ?_ | ((first | refine AL.ld rfl ?_ | refine AL.st rfl rfl ?_ | refine AL.clr rfl ?_ | refine AL.slW (by kernel_rfl) rfl ?_ | refine AL.pu rfl ?_ | refine AH.ld rfl ?_ | refine AH.stN rfl rfl (by kernel_rfl) ?_ | refine AH.slW (by kernel_rfl) rfl ?_ | refine AH.pu rfl rfl ?_); simp (disch := omega) only [Option.some.injEq, TypeDesc.slice.injEq, exists_eq_left', push_cast, ↓reduceIte, reduceCtorEq, Nat.reduceAdd, Nat.reduceMul, Nat.reduceLeDiff, Nat.reduceLT, Nat.reduceSub, Int.reduceNe, Int.reduceEq, Int.reduceLE, Int.reduceLT, Int.reduceToNat, w_i64])))
            refine ⟨rfl, m2 - 1, by omega, q, rfl, u + 1, rfl, by omega, by omega, by omega, by omega, ys, rfl, hyl, ?_, hyo⟩
            rw [show k + (u + 1) = k + u + 1 by omega, ddN, if_pos ⟨by omega, hne'⟩, hyt]
        · have hq3 : q ≤ xs.length := by omega
          have hcap : q ≤ capLb c := Nat.le_trans hq3 hR.cap
          have hfr : aslice (.slice (some ⟨b, off, none⟩) xs.length c) 1 (some (.int .i64 (q : Int))) none none = some (.slice (some ⟨b, off + q, none⟩) (xs.length - q) (capSub c q)) := by
            rw [aslice_from hq3, Nat.mul_one]
          have hto := aslice_to (b := b) (off := off) (n := xs.length) (s := 1) hcap
          (repeat (first | refine st ?_ | refine ADL.hd rfl ?_ | refine blockA.here ?_ | refine blockA.exit rfl ?_ | (refine And.intro (by omega) ?_) | (refine AW.condT rfl rfl (by first | rfl | assumption) ?_) | (refine AW.condF rfl rfl (by first | rfl | assumption) ?_) | refine AW.dr (id := 6) (by rfl) [0, 1, 2, 3, 4, 5, 6, 7, 8, 9] (by kernel_rfl) (by kernel_rfl) ?_ | refine AW.dr (id := 11) (by rfl) [0, 1, 2, 3, 4, 5, 6, 7, 8, 9] (by kernel_rfl) (by kernel_rfl) ?_ | ((first | refine AL.ld rfl ?_ | refine AL.st rfl rfl ?_ | refine AL.clr rfl ?_ | refine AL.slW (by kernel_rfl) rfl ?_ | refine AL.pu rfl ?_ | refine AH.ld rfl ?_ | refine AH.stN rfl rfl (by kernel_rfl) ?_ | refine AH.slW (by kernel_rfl) rfl ?_ | refine AH.pu rfl rfl ?_); simp (disch := omega) only [Option.some.injEq, TypeDesc.slice.injEq, exists_eq_left', push_cast, ↓reduceIte, reduceCtorEq, Nat.reduceAdd, Nat.reduceMul, Nat.reduceLeDiff, Nat.reduceLT, Nat.reduceSub, Int.reduceNe, Int.reduceEq, Int.reduceLE, Int.reduceLT, Int.reduceToNat, hsz, hfr, Option.map_none, Option.map_some])))
          unfold clrK
          refine ⟨b, off + q, xs.length - q, capSub c q, 25, [.int .u32 0], .row true 1 (pre ++ ints .u32 ys ++ []), rfl, by kernel_rfl, by kernel_rfl, by decide, hR2.get, rfl, rfl, ?_, ?_⟩
          · have := hR.off; simp [Blk.cells, ints]; omega
          have hyq : k + u = xs.length := by omega
          have hM := hR2.get
          simp only [Blk.put, Blk.cells, List.set_set]
          generalize hz : zerosOf [Value.int .u32 0] (xs.length - q) = zs
          have hzl : zs.length = xs.length - q := by rw [← hz, zerosOf_length]; simp
          have hsz2 : szOk (M1.set b (.row true 1 (spl (pre ++ ints .u32 ys ++ []) (off + q) zs))) (.slice (some ⟨b, off, none⟩) xs.length c) 1 := by
            unfold szOk
            refine ⟨by omega, fun a n' c' B hv _ hB => ?_⟩
            cases hv
            rw [List.getElem?_set_self hR.lt] at hB
            obtain rfl := Option.some.inj hB
            rfl
          (repeat (first | refine st ?_ | refine ADL.hd rfl ?_ | refine blockA.here ?_ | refine blockA.exit rfl ?_ | (refine And.intro (by omega) ?_) | (refine AW.condT rfl rfl (by first | rfl | assumption) ?_) | (refine AW.condF rfl rfl (by first | rfl | assumption) ?_) | refine AW.dr (id := 6) (by rfl) [0, 1, 2, 3, 4, 5, 6, 7, 8, 9] (by kernel_rfl) (by kernel_rfl) ?_ | refine AW.dr (id := 11) (by rfl) [0, 1, 2, 3, 4, 5, 6, 7, 8, 9] (by kernel_rfl) (by kernel_rfl) ?_ | ((first | refine AL.ld rfl ?_ | refine AL.st rfl rfl ?_ | refine AL.clr rfl ?_ | refine AL.slW (by kernel_rfl) rfl ?_ | refine AL.pu rfl ?_ | refine AH.ld rfl ?_ | refine AH.stN rfl rfl (by kernel_rfl) ?_ | refine AH.slW (by kernel_rfl) rfl ?_ | refine AH.pu rfl rfl ?_); simp (disch := omega) only [Option.some.injEq, TypeDesc.slice.injEq, exists_eq_left', push_cast, ↓reduceIte, reduceCtorEq, Nat.reduceAdd, Nat.reduceMul, Nat.reduceLeDiff, Nat.reduceLT, Nat.reduceSub, Int.reduceNe, Int.reduceEq, Int.reduceLE, Int.reduceLT, Int.reduceToNat, hsz2, hto, Option.map_none, Option.map_some])))
          ((first | refine retA.ret (by rfl) ?_ | refine retA.normal (by rfl) ?_); simp (disch := omega) only [push_cast, ↓reduceIte, reduceCtorEq, Nat.reduceAdd, Nat.reduceMul, Nat.reduceLeDiff, Nat.reduceLT, Nat.reduceSub, Int.reduceNe, Int.reduceEq, Int.reduceLE, Int.reduceLT, Int.reduceToNat])
          have hbr : ∀ x ∈ blkOf (.slice (some ⟨b, off, none⟩) q (capSub c 0)), x ∈ blkOf (.slice (some ⟨b, off, none⟩) xs.length c) := by rw [capSub_zero]; exact fun x h => h
          refine ⟨?_, by rw [hbk]; exact Fr.set _ _ _, hbr⟩
          have hdl : (ddN xs xs.length).length = q := by rw [← hyq, ← hyt, List.length_take]; omega
          have hoff := hR.off
          refine Sl.at (by omega) (List.getElem?_set_self hR.lt) ?_ ?_ (by simp [ints]; omega) (ints_one _ _) (by rw [capSub_zero]; exact hcap)
          · simp [spl, Blk.cells, ints]; omega
          · rw [ints_length, hdl]
            simp only [spl, Blk.cells, List.append_nil]
            have e1 : (pre ++ ints .u32 ys).take (off + q) = pre ++ ints .u32 (ddN xs xs.length) := by
              rw [← hoff, List.take_length_add_append, ints_take, hyt, hyq]
            rw [e1, List.append_assoc, List.append_assoc, ← hoff, List.drop_left]
            rw [List.take_append_of_le_length (by rw [ints_length]; omega), List.take_of_length_le (by rw [ints_length]; omega)]
      · (repeat (first | refine st ?_ | refine ADL.hd rfl ?_ | refine blockA.here ?_ | refine blockA.exit rfl ?_ | (refine And.intro (by omega) ?_) | (refine AW.condT rfl rfl (by first | rfl | assumption) ?_) | (refine AW.condF rfl rfl (by first | rfl | assumption) ?_) | refine AW.dr (id := 6) (by rfl) [0, 1, 2, 3, 4, 5, 6, 7, 8, 9] (by kernel_rfl) (by kernel_rfl) ?_ | refine AW.dr (id := 11) (by rfl) [0, 1, 2, 3, 4, 5, 6, 7, 8, 9] (by kernel_rfl) (by kernel_rfl) ?_ | ((first | refine AL.ld rfl ?_ | refine AL.st rfl rfl ?_ | refine AL.clr rfl ?_ | refine AL.slW (by kernel_rfl) rfl ?_ | refine AL.pu rfl ?_ | refine AH.ld rfl ?_ | refine AH.stN rfl rfl (by kernel_rfl) ?_ | refine AH.slW (by kernel_rfl) rfl ?_ | refine AH.pu rfl rfl ?_); simp (disch := omega) only [Option.some.injEq, TypeDesc.slice.injEq, exists_eq_left', push_cast, ↓reduceIte, reduceCtorEq, Nat.reduceAdd, Nat.reduceMul, Nat.reduceLeDiff, Nat.reduceLT, Nat.reduceSub, Int.reduceNe, Int.reduceEq, Int.reduceLE, Int.reduceLT, Int.reduceToNat, w_i64])))
        refine ⟨rfl, m - 1, by omega, k + 1, rfl, by omega, by omega, by omega, rfl, fun q h1 h2 => ?_⟩
        by_cases e : q = k
        · rw [e]; exact he'
        · exact hno q h1 (by omega)
    · (repeat (first | refine st ?_ | refine ADL.hd rfl ?_ | refine blockA.here ?_ | refine blockA.exit rfl ?_ | (refine And.intro (by omega) ?_) | (refine AW.condT rfl rfl (by first | rfl | assumption) ?_) | (refine AW.condF rfl rfl (by first | rfl | assumption) ?_) | refine AW.dr (id := 6) (by rfl) [0, 1, 2, 3, 4, 5, 6, 7, 8, 9] (by kernel_rfl) (by kernel_rfl) ?_ | refine AW.dr (id := 11) (by rfl) [0, 1, 2, 3, 4, 5, 6, 7, 8, 9] (by kernel_rfl) (by kernel_rfl) ?_ | ((first | refine AL.ld rfl ?_ | refine AL.st rfl rfl ?_ | refine AL.clr rfl ?_ | refine AL.slW (by kernel_rfl) rfl ?_ | refine AL.pu rfl ?_ | refine AH.ld rfl ?_ | refine AH.stN rfl rfl (by kernel_rfl) ?_ | refine AH.slW (by kernel_rfl) rfl ?_ | refine AH.pu rfl rfl ?_); simp (disch := omega) only [Option.some.injEq, TypeDesc.slice.injEq, exists_eq_left', push_cast, ↓reduceIte, reduceCtorEq, Nat.reduceAdd, Nat.reduceMul, Nat.reduceLeDiff, Nat.reduceLT, Nat.reduceSub, Int.reduceNe, Int.reduceEq, Int.reduceLE, Int.reduceLT, Int.reduceToNat])))
      ((first | refine retA.ret (by rfl) ?_ | refine retA.normal (by rfl) ?_); simp (disch := omega) only [push_cast, ↓reduceIte, reduceCtorEq, Nat.reduceAdd, Nat.reduceMul, Nat.reduceLeDiff, Nat.reduceLT, Nat.reduceSub, Int.reduceNe, Int.reduceEq, Int.reduceLE, Int.reduceLT, Int.reduceToNat])
      rw [ddN_plain (fun q h1 h2 => hno q h1 (by omega)) (Nat.le_refl _), List.take_length]
      exact ⟨hv.sl, (Fr.refl M1).cut (by simp), fun b h => h⟩

end Go.Proofs.Ytbjipdmbdabniaa.Ax
