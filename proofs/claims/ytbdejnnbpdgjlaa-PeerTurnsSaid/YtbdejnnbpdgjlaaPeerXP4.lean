/- Contracts of functions over the abstract machine. No conditions: lemmas alone. -/
import Derived.Test.YtbdejnnbpdgjlaaPeerXLibD
import Derived.Test.YtbdejnnbpdgjlaaPeerXP0
import Derived.Test.YtbdejnnbpdgjlaaPeerXP2
namespace Go.Proofs.Ytbdejnnbpdgjlaa.Ax
open Go Go.RowKit
open Nat renaming reduceAdd → ν1, reduceMul → ν2, reduceLeDiff → ν3, reduceLT → ν4, reduceSub → ν5
open Int renaming reduceNe → ζ1, reduceEq → ζ2, reduceLE → ζ3, reduceLT → ζ4, reduceToNat → ζ5
set_option linter.unusedVariables false
set_option linter.unusedSimpArgs false
set_option maxRecDepth 100000
set_option maxHeartbeats 20000000
attribute [local irreducible] thenA blockA scopeA retA AL AW AD ADL AH clrK CallA apure aload bload appK ptrK fnK ares szOk planOk okOps
theorem d113_SoH {g n : Prop} (k : n) (h : n → g := by first | exact AW.dr (id := 5) (by rfl) [0, 1, 2, 3, 4, 5, 6, 7, 8, 9, 10, 11, 12, 13, 14, 15] (by kernel_rfl) (by kernel_rfl) | exact AW.dr (id := 11) (by rfl) [0, 1, 2, 3, 4, 5, 6, 7, 8, 9, 10, 11, 12, 13, 14, 15, 16, 17] (by kernel_rfl) (by kernel_rfl) | exact AW.dr (id := 16) (by rfl) [0, 1, 2, 3, 4, 5, 6, 7, 8, 9, 10] (by kernel_rfl) (by kernel_rfl) | exact AW.dr (id := 17) (by rfl) [0, 1, 2, 3, 4, 5, 6, 7, 8, 9, 10, 11, 12, 13, 14, 15, 16, 17] (by kernel_rfl) (by kernel_rfl) | exact AW.dr (id := 22) (by rfl) [0, 1, 2, 3, 4, 5, 6, 7, 8, 9, 10] (by kernel_rfl) (by kernel_rfl) | exact AW.dr (id := 23) (by rfl) [0, 1, 2, 3, 4, 5, 6, 7, 8, 9, 10, 11, 12, 13, 14, 15, 16, 17] (by kernel_rfl) (by kernel_rfl)) : g := h k
theorem a113_SoH {g n : Prop} (k : n) (h : n → g := by first | exact AH.caN (dst := some 77) rfl (by kernel_rfl) | exact AH.caN (dst := some 115) rfl (by kernel_rfl)) : g := h k
theorem SortOn.snoc {a i : Nat} {ys : List Int} (h : SortOn a i ys) (ha : a < i) (hl : ys.getD (i - 1) 0 ≤ ys.getD i 0) : SortOn a (i + 1) ys := by
 intro p q h1 h2 h3
 by_cases hq : q = i
 ·subst hq
  by_cases hp : p = q - 1
  ·rw [hp]; exact hl
  ·exact Int.le_trans (h p (q - 1) h1 (by omega) (by omega)) hl
 ·exact h p q h1 h2 (by omega)
theorem SortOn.out {a i p q : Nat} {ys : List Int} (h : SortOn a i ys) (hp : i ≤ p) (hq : i ≤ q) (hpl : p < ys.length) (hql : q < ys.length) : SortOn a i (swap ys p q) := by
 intro u v h1 h2 h3
 rw [swap_get hpl hql (by omega), swap_get hpl hql (by omega), if_neg (by omega), if_neg (by omega), if_neg (by omega), if_neg (by omega)]
 exact h u v h1 h2 h3
theorem SortOn.mono {a i k : Nat} {ys : List Int} (h : SortOn a i ys) (hk : k ≤ i) : SortOn a k ys := fun p q h1 h2 h3 => h p q h1 h2 (by omega)
theorem part_spec {M : Mem} {b off n c : Nat} {pre post : List Value} {xs : List Int} (h : Rw M b off n c pre post xs) (a e : Nat) (ha : a + 1 ≤ e) (he : e ≤ n) (hn : n ≤ 1000000000)
  (hlow : ∀ i j, i < a → a ≤ j → j < e → xs.getD i 0 ≤ xs.getD j 0) :
  CallA Try.prog 113 [.slice (some ⟨b, off, none⟩) n c, .int .i64 a, .int .i64 e] M fun v M' => ∃ (d : Bool) (ys : List Int), v = .bool d ∧ M' = M.set b (.row true 1 (pre ++ ints .u32 ys ++ post)) ∧ PermOn a e xs ys ∧ (d = true → SortOn a e ys) := by
 have hlen := h.len
 (refine CallA.of_body Try.func113 rfl (by rfl) ?_; simp only [Try.ntmps113, List.length_cons, List.length_nil, List.replicate, List.cons_append, List.nil_append, Nat.reduceSub, Nat.reduceAdd])
 (repeat (first | refine st ?_ | refine σa ?_ | refine d113_SoH ?_ | ((first | refine a113_SoH ?_ | refine σb ?_ | refine σc ?_); simp (disch := omega) only [push_cast, ↓reduceIte, reduceCtorEq, ν1, ν2, ν3, ν4, ν5, ζ1, ζ2, ζ3, ζ4, ζ5, w_i64])))
 refine AW.loopF [6, 7, 8, 9, 10, 13, 14, 15, 16, 17, 18, 19, 20, 21, 22, 23, 24, 25, 26, 27, 28, 29, 30, 31, 32, 33, 34, 35, 36, 37, 38, 39, 40, 41, 42, 43, 44, 45, 46, 47, 48, 49, 50, 51, 52, 53, 54, 55, 56, 57, 58, 59, 60, 61, 62, 63, 64, 65, 66, 67, 68, 69, 70, 71, 72, 73, 74, 75, 76, 77, 78, 79, 80, 81, 82, 83, 84, 85, 86, 87, 88, 89, 90, 91, 92, 93, 94, 95, 96, 97, 98, 99, 100, 101, 102, 103, 104, 105, 106, 107, 108, 109, 110, 111, 112, 113, 114, 115, 116, 117, 118, 119, 120, 121, 122, 123, 124, 125, 126, 127, 128, 129, 130, 131, 132] (fun m g M' => ∃ (i j : Nat) (ys : List Int), g 6 = .bool false ∧ g 7 = .int .i64 i ∧ g 8 = .int .i64 j ∧ a + 1 ≤ i ∧ i ≤ e ∧ j + m = 5 ∧ M' = M.set b (.row true 1 (pre ++ ints .u32 ys ++ post)) ∧ PermOn a e xs ys ∧ SortOn a i ys) 5 ?_ ?_
 ·exact ⟨a + 1, 0, xs, rfl, rfl, rfl, by omega, by omega, by omega, h.same.symm, PermOn.refl _ _ _, fun p q h1 h2 h3 => by omega⟩
 rintro m g M1 ⟨i, j, ys, h6, h7, h8, hi1, hi2, hm, rfl, hP, hS⟩
 simp (disch := omega) only [push_cast, ↓reduceIte, reduceCtorEq, Nat.reduceAdd, Nat.reduceMul, Nat.reduceLeDiff, Nat.reduceLT, Nat.reduceSub, Int.reduceNe, Int.reduceEq, Int.reduceLE, Int.reduceLT, Int.reduceToNat, h6, h7, h8]
 (repeat (first | refine st ?_ | refine σa ?_ | refine d113_SoH ?_ | ((first | refine a113_SoH ?_ | refine σb ?_ | refine σc ?_); simp (disch := omega) only [push_cast, ↓reduceIte, reduceCtorEq, ν1, ν2, ν3, ν4, ν5, ζ1, ζ2, ζ3, ζ4, ζ5])))
 ((first | refine AL.gu rfl (fun hj => ?_) (fun hj => ?_) | refine AW.condS rfl rfl (fun hj => ?_) (fun hj => ?_)) <;> (try (have hj' := hj; simp only [Bool.not_eq_true', Bool.not_eq_false', Bool.not_true, Bool.not_false, decide_eq_true_eq, decide_eq_false_iff_not, Classical.not_not, Int.not_lt, Int.not_le, gt_iff_lt, ge_iff_le, beq_iff_eq] at hj')))
 ·(repeat (first | refine st ?_ | refine σa ?_ | refine d113_SoH ?_ | ((first | refine a113_SoH ?_ | refine σb ?_ | refine σc ?_); simp (disch := omega) only [push_cast, ↓reduceIte, reduceCtorEq, ν1, ν2, ν3, ν4, ν5, ζ1, ζ2, ζ3, ζ4, ζ5])))
  refine AW.loopF [7, 17, 18, 19, 20, 21, 22, 23, 24, 25, 26, 27, 28, 29, 30, 31, 32, 33, 34] (fun m g M' => ∃ (i : Nat), g 7 = .int .i64 i ∧ a + 1 ≤ i ∧ i ≤ e ∧ i + m = e ∧ M' = M.set b (.row true 1 (pre ++ ints .u32 ys ++ post)) ∧ SortOn a i ys) (e - i) ?_ ?_
  ·exact ⟨i, rfl, by omega, by omega, by omega, rfl, hS⟩
  clear h7 hi1 hi2 hS
  rintro m1 g1 M2 ⟨i, h7, hi1, hi2, hm1, rfl, hS⟩
  have hyl := hP.len
  have hR := h.put (ys := ys) (by omega)
  simp (disch := omega) only [push_cast, ↓reduceIte, reduceCtorEq, Nat.reduceAdd, Nat.reduceMul, Nat.reduceLeDiff, Nat.reduceLT, Nat.reduceSub, Int.reduceNe, Int.reduceEq, Int.reduceLE, Int.reduceLT, Int.reduceToNat, h7]
  by_cases hie : i < e
  ·have hd : decide ((i : Int) < e) = true := decide_eq_true (by omega)
   have hd2 : decide ((i : Int) = e) = false := decide_eq_false (by omega)
   have l1 := hR.ld (i := i) (by omega)
   have l2 := hR.ld (i := i - 1) (by omega)
   (repeat (first | refine st ?_ | refine σa ?_ | refine d113_SoH ?_ | ((first | refine a113_SoH ?_ | refine σb ?_ | refine σc ?_); simp (disch := omega) only [push_cast, ↓reduceIte, reduceCtorEq, ν1, ν2, ν3, ν4, ν5, ζ1, ζ2, ζ3, ζ4, ζ5, hd, tn_sub1, l1, l2, hlen, w_i64, Int.toNat_natCast])))
   (refine (less_spec _ _ _).mono ?_; rintro r M3 ⟨rfl, rfl⟩; try refine ⟨Fr.refl _, ?_⟩)
   (repeat (first | refine st ?_ | refine σa ?_ | refine d113_SoH ?_ | ((first | refine a113_SoH ?_ | refine σb ?_ | refine σc ?_); simp (disch := omega) only [push_cast, ↓reduceIte, reduceCtorEq, ν1, ν2, ν3, ν4, ν5, ζ1, ζ2, ζ3, ζ4, ζ5, hd])))
   ((first | refine AL.gu rfl (fun hc => ?_) (fun hc => ?_) | refine AW.condS rfl rfl (fun hc => ?_) (fun hc => ?_)) <;> (try (have hc' := hc; simp only [Bool.not_eq_true', Bool.not_eq_false', Bool.not_true, Bool.not_false, decide_eq_true_eq, decide_eq_false_iff_not, Classical.not_not, Int.not_lt, Int.not_le, gt_iff_lt, ge_iff_le, beq_iff_eq] at hc')))
   ·(repeat (first | refine st ?_ | refine σa ?_ | refine d113_SoH ?_ | ((first | refine a113_SoH ?_ | refine σb ?_ | refine σc ?_); simp (disch := omega) only [push_cast, ↓reduceIte, reduceCtorEq, ν1, ν2, ν3, ν4, ν5, ζ1, ζ2, ζ3, ζ4, ζ5, w_i64])))
    exact ⟨rfl, m1 - 1, by omega, i + 1, rfl, by omega, by omega, by omega, rfl, hS.snoc (by omega) hc'⟩
   ·(repeat (first | refine st ?_ | refine σa ?_ | refine d113_SoH ?_ | ((first | refine a113_SoH ?_ | refine σb ?_ | refine σc ?_); simp (disch := omega) only [push_cast, ↓reduceIte, reduceCtorEq, ν1, ν2, ν3, ν4, ν5, ζ1, ζ2, ζ3, ζ4, ζ5, hd2, w_i64])))
    ((first | refine AL.gu rfl (fun hs => ?_) (fun hs => ?_) | refine AW.condS rfl rfl (fun hs => ?_) (fun hs => ?_)) <;> (try (have hs' := hs; simp only [Bool.not_eq_true', Bool.not_eq_false', Bool.not_true, Bool.not_false, decide_eq_true_eq, decide_eq_false_iff_not, Classical.not_not, Int.not_lt, Int.not_le, gt_iff_lt, ge_iff_le, beq_iff_eq] at hs')))
    ·(repeat (first | refine st ?_ | refine σa ?_ | refine d113_SoH ?_ | ((first | refine a113_SoH ?_ | refine σb ?_ | refine σc ?_); simp (disch := omega) only [push_cast, ↓reduceIte, reduceCtorEq, ν1, ν2, ν3, ν4, ν5, ζ1, ζ2, ζ3, ζ4, ζ5])))
     ((first | refine retA.ret (by rfl) ?_ | refine retA.normal (by rfl) ?_); simp (disch := omega) only [push_cast, ↓reduceIte, reduceCtorEq, Nat.reduceAdd, Nat.reduceMul, Nat.reduceLeDiff, Nat.reduceLT, Nat.reduceSub, Int.reduceNe, Int.reduceEq, Int.reduceLE, Int.reduceLT, Int.reduceToNat])
     exact ⟨false, rfl, ys, rfl, hP, fun h => by cases h⟩
    ·have hR1 := h.put (ys := ys.set i (ys.getD (i - 1) 0)) (by simp; omega)
     (repeat (first | refine st ?_ | refine σa ?_ | refine d113_SoH ?_ | ((first | refine a113_SoH ?_ | refine σb ?_ | refine σc ?_); simp (disch := omega) only [push_cast, ↓reduceIte, reduceCtorEq, ν1, ν2, ν3, ν4, ν5, ζ1, ζ2, ζ3, ζ4, ζ5, tn_sub1, l1, l2, hlen, w_i64, Int.toNat_natCast, hR.get, hR1.get, hR.room, hR1.room, hR.spl, hR1.spl, Option.some.injEq, exists_eq_left', List.set_set, List.length_set, Blk.put, Blk.ours, Blk.cells])))
     have hP0 : PermOn a e xs (swap ys i (i - 1)) := hP.trans (PermOn.swap (by omega) (by omega) (by omega) (by omega) (by omega))
     have hS0 : SortOn a (i - 1) (swap ys i (i - 1)) := (hS.mono (Nat.sub_le _ _)).out (by omega) (Nat.le_refl _) (by omega) (by omega)
     refine AW.joinF [9, 62, 63, 64, 65, 66, 67, 68, 69, 70, 71, 72, 73, 74, 75, 76, 77, 78, 79, 80, 81, 82, 83, 84, 85, 86, 87, 88, 89, 90, 91, 92, 93, 94] (fun g M' => ∃ ws, M' = M.set b (.row true 1 (pre ++ ints .u32 ws ++ post)) ∧ PermOn a e xs ws ∧ SortOn a i ws) ?_ ?_
     ·((first | refine AL.gu rfl (fun hu => ?_) (fun hu => ?_) | refine AW.condS rfl rfl (fun hu => ?_) (fun hu => ?_)) <;> (try (have hu' := hu; simp only [Bool.not_eq_true', Bool.not_eq_false', Bool.not_true, Bool.not_false, decide_eq_true_eq, decide_eq_false_iff_not, Classical.not_not, Int.not_lt, Int.not_le, gt_iff_lt, ge_iff_le, beq_iff_eq] at hu')))
      ·(repeat (first | refine st ?_ | refine σa ?_ | refine d113_SoH ?_ | ((first | refine a113_SoH ?_ | refine σb ?_ | refine σc ?_); simp (disch := omega) only [push_cast, ↓reduceIte, reduceCtorEq, ν1, ν2, ν3, ν4, ν5, ζ1, ζ2, ζ3, ζ4, ζ5, w_i64])))
       refine AW.loopF [9, 64, 65, 66, 67, 68, 69, 70, 71, 72, 73, 74, 75, 76, 77, 78, 79, 80, 81, 82, 83, 84, 85, 86, 87, 88, 89, 90, 91, 92, 93, 94] (fun m g M' => ∃ (k : Nat) (ws : List Int), g 9 = .int .i64 k ∧ a ≤ k ∧ k + 1 ≤ i ∧ k = m + a ∧ M' = M.set b (.row true 1 (pre ++ ints .u32 ws ++ post)) ∧ PermOn a e xs ws ∧ InsAt a (i - 1) k ws) (i - 1 - a) ?_ ?_
       ·exact ⟨i - 1, swap ys i (i - 1), congrArg (Value.int .i64) (by omega), by omega, by omega, by omega, rfl, hP0, hS0.start (i - 1)⟩
       rintro m2 g2 M3 ⟨k, ws, h9, hk1, hk2, hkm, rfl, hQ, hI⟩
       have hwl := hQ.len
       have hRw := h.put (ys := ws) (by omega)
       simp (disch := omega) only [push_cast, ↓reduceIte, reduceCtorEq, Nat.reduceAdd, Nat.reduceMul, Nat.reduceLeDiff, Nat.reduceLT, Nat.reduceSub, Int.reduceNe, Int.reduceEq, Int.reduceLE, Int.reduceLT, Int.reduceToNat, h9]
       (repeat (first | refine st ?_ | refine σa ?_ | refine d113_SoH ?_ | ((first | refine a113_SoH ?_ | refine σb ?_ | refine σc ?_); simp (disch := omega) only [push_cast, ↓reduceIte, reduceCtorEq, ν1, ν2, ν3, ν4, ν5, ζ1, ζ2, ζ3, ζ4, ζ5])))
       ((first | refine AL.gu rfl (fun hk0 => ?_) (fun hk0 => ?_) | refine AW.condS rfl rfl (fun hk0 => ?_) (fun hk0 => ?_)) <;> (try (have hk0' := hk0; simp only [Bool.not_eq_true', Bool.not_eq_false', Bool.not_true, Bool.not_false, decide_eq_true_eq, decide_eq_false_iff_not, Classical.not_not, Int.not_lt, Int.not_le, gt_iff_lt, ge_iff_le, beq_iff_eq] at hk0')))
       ·have k1 := hRw.ld (i := k) (by omega)
        have k2 := hRw.ld (i := k - 1) (by omega)
        (repeat (first | refine st ?_ | refine σa ?_ | refine d113_SoH ?_ | ((first | refine a113_SoH ?_ | refine σb ?_ | refine σc ?_); simp (disch := omega) only [push_cast, ↓reduceIte, reduceCtorEq, ν1, ν2, ν3, ν4, ν5, ζ1, ζ2, ζ3, ζ4, ζ5, tn_sub1, k1, k2, hlen, w_i64, Int.toNat_natCast])))
        (refine (less_spec _ _ _).mono ?_; rintro r M3 ⟨rfl, rfl⟩; try refine ⟨Fr.refl _, ?_⟩)
        (repeat (first | refine st ?_ | refine σa ?_ | refine d113_SoH ?_ | ((first | refine a113_SoH ?_ | refine σb ?_ | refine σc ?_); simp (disch := omega) only [push_cast, ↓reduceIte, reduceCtorEq, ν1, ν2, ν3, ν4, ν5, ζ1, ζ2, ζ3, ζ4, ζ5])))
        ((first | refine AL.gu rfl (fun hz => ?_) (fun hz => ?_) | refine AW.condS rfl rfl (fun hz => ?_) (fun hz => ?_)) <;> (try (have hz' := hz; simp only [Bool.not_eq_true', Bool.not_eq_false', Bool.not_true, Bool.not_false, decide_eq_true_eq, decide_eq_false_iff_not, Classical.not_not, Int.not_lt, Int.not_le, gt_iff_lt, ge_iff_le, beq_iff_eq] at hz')))
        ·(repeat (first | refine st ?_ | refine σa ?_ | refine d113_SoH ?_ | ((first | refine a113_SoH ?_ | refine σb ?_ | refine σc ?_); simp (disch := omega) only [push_cast, ↓reduceIte, reduceCtorEq, ν1, ν2, ν3, ν4, ν5, ζ1, ζ2, ζ3, ζ4, ζ5])))
         refine ⟨rfl, ws, rfl, hQ, ?_⟩
         have := hI.done (by omega) (fun _ => hz')
         rwa [show i - 1 + 1 = i by omega] at this
        ·have hak : a < k := by
          rcases Nat.lt_or_ge a k with h | h
          ·exact h
          ·exfalso
           obtain rfl : k = a := by omega
           have := PQ.low_turn hlow hQ (by omega) (k - 1) k (by omega) (by omega) (by omega)
           omega
         have hR3 := h.put (ys := ws.set k (ws.getD (k - 1) 0)) (by simp; omega)
         (repeat (first | refine st ?_ | refine σa ?_ | refine d113_SoH ?_ | ((first | refine a113_SoH ?_ | refine σb ?_ | refine σc ?_); simp (disch := omega) only [push_cast, ↓reduceIte, reduceCtorEq, ν1, ν2, ν3, ν4, ν5, ζ1, ζ2, ζ3, ζ4, ζ5, tn_sub1, k1, k2, hlen, w_i64, Int.toNat_natCast, hRw.get, hR3.get, hRw.room, hR3.room, hRw.spl, hR3.spl, Option.some.injEq, exists_eq_left', List.set_set, List.length_set, Blk.put, Blk.ours, Blk.cells])))
         have ek : Value.int .i64 ((k : Int) - 1) = .int .i64 ((k - 1 : Nat) : Int) := congrArg (Value.int .i64) (by omega)
         exact ⟨rfl, m2 - 1, by omega, k - 1, ek, by omega, by omega, by omega, swap ws k (k - 1), rfl, hQ.trans (PermOn.swap (by omega) (by omega) (by omega) (by omega) (by omega)), hI.step hak (by omega) (by omega) hz'⟩
       ·(repeat (first | refine st ?_ | refine σa ?_ | refine d113_SoH ?_ | ((first | refine a113_SoH ?_ | refine σb ?_ | refine σc ?_); simp (disch := omega) only [push_cast, ↓reduceIte, reduceCtorEq, ν1, ν2, ν3, ν4, ν5, ζ1, ζ2, ζ3, ζ4, ζ5])))
        refine ⟨rfl, ws, rfl, hQ, ?_⟩
        have := hI.done (by omega) (fun _ => by omega)
        rwa [show i - 1 + 1 = i by omega] at this
      ·(repeat (first | refine st ?_ | refine σa ?_ | refine d113_SoH ?_ | ((first | refine a113_SoH ?_ | refine σb ?_ | refine σc ?_); simp (disch := omega) only [push_cast, ↓reduceIte, reduceCtorEq, ν1, ν2, ν3, ν4, ν5, ζ1, ζ2, ζ3, ζ4, ζ5])))
       exact ⟨(over_self _ _).symm, swap ys i (i - 1), rfl, hP0, fun p q h1 h2 h3 => by omega⟩
     rintro g3 M3 ⟨zs, rfl, hQ, hSz⟩
     simp (disch := omega) only [push_cast, ↓reduceIte, reduceCtorEq, Nat.reduceAdd, Nat.reduceMul, Nat.reduceLeDiff, Nat.reduceLT, Nat.reduceSub, Int.reduceNe, Int.reduceEq, Int.reduceLE, Int.reduceLT, Int.reduceToNat]
     (repeat (first | refine st ?_ | refine σa ?_ | refine d113_SoH ?_ | ((first | refine a113_SoH ?_ | refine σb ?_ | refine σc ?_); simp (disch := omega) only [push_cast, ↓reduceIte, reduceCtorEq, ν1, ν2, ν3, ν4, ν5, ζ1, ζ2, ζ3, ζ4, ζ5, w_i64])))
     refine AW.joinQ [10, 99, 100, 101, 102, 103, 104, 105, 106, 107, 108, 109, 110, 111, 112, 113, 114, 115, 116, 117, 118, 119, 120, 121, 122, 123, 124, 125, 126, 127, 128, 129, 130, 131, 132] (fun g M' => ∃ ws, M' = M.set b (.row true 1 (pre ++ ints .u32 ws ++ post)) ∧ PermOn a e xs ws ∧ SortOn a i ws) ?_ ?_
     ·((first | refine AL.gu rfl (fun hv => ?_) (fun hv => ?_) | refine AW.condS rfl rfl (fun hv => ?_) (fun hv => ?_)) <;> (try (have hv' := hv; simp only [Bool.not_eq_true', Bool.not_eq_false', Bool.not_true, Bool.not_false, decide_eq_true_eq, decide_eq_false_iff_not, Classical.not_not, Int.not_lt, Int.not_le, gt_iff_lt, ge_iff_le, beq_iff_eq] at hv')))
      ·(repeat (first | refine st ?_ | refine σa ?_ | refine d113_SoH ?_ | ((first | refine a113_SoH ?_ | refine σb ?_ | refine σc ?_); simp (disch := omega) only [push_cast, ↓reduceIte, reduceCtorEq, ν1, ν2, ν3, ν4, ν5, ζ1, ζ2, ζ3, ζ4, ζ5, w_i64])))
       refine AW.loopF [10, 101, 102, 103, 104, 105, 106, 107, 108, 109, 110, 111, 112, 113, 114, 115, 116, 117, 118, 119, 120, 121, 122, 123, 124, 125, 126, 127, 128, 129, 130, 131, 132] (fun m g M' => ∃ (k : Nat) (ws : List Int), g 10 = .int .i64 k ∧ i + 1 ≤ k ∧ k ≤ e ∧ k + m = e ∧ M' = M.set b (.row true 1 (pre ++ ints .u32 ws ++ post)) ∧ PermOn a e xs ws ∧ SortOn a i ws) (e - (i + 1)) ?_ ?_
       ·exact ⟨i + 1, zs, rfl, by omega, by omega, by omega, rfl, hQ, hSz⟩
       rintro m2 g2 M3 ⟨k, ws, h10, hk1, hk2, hkm, rfl, hQ, hSw⟩
       have hwl := hQ.len
       have hRw := h.put (ys := ws) (by omega)
       simp (disch := omega) only [push_cast, ↓reduceIte, reduceCtorEq, Nat.reduceAdd, Nat.reduceMul, Nat.reduceLeDiff, Nat.reduceLT, Nat.reduceSub, Int.reduceNe, Int.reduceEq, Int.reduceLE, Int.reduceLT, Int.reduceToNat, h10]
       (repeat (first | refine st ?_ | refine σa ?_ | refine d113_SoH ?_ | ((first | refine a113_SoH ?_ | refine σb ?_ | refine σc ?_); simp (disch := omega) only [push_cast, ↓reduceIte, reduceCtorEq, ν1, ν2, ν3, ν4, ν5, ζ1, ζ2, ζ3, ζ4, ζ5])))
       ((first | refine AL.gu rfl (fun hk0 => ?_) (fun hk0 => ?_) | refine AW.condS rfl rfl (fun hk0 => ?_) (fun hk0 => ?_)) <;> (try (have hk0' := hk0; simp only [Bool.not_eq_true', Bool.not_eq_false', Bool.not_true, Bool.not_false, decide_eq_true_eq, decide_eq_false_iff_not, Classical.not_not, Int.not_lt, Int.not_le, gt_iff_lt, ge_iff_le, beq_iff_eq] at hk0')))
       ·have k1 := hRw.ld (i := k) (by omega)
        have k2 := hRw.ld (i := k - 1) (by omega)
        (repeat (first | refine st ?_ | refine σa ?_ | refine d113_SoH ?_ | ((first | refine a113_SoH ?_ | refine σb ?_ | refine σc ?_); simp (disch := omega) only [push_cast, ↓reduceIte, reduceCtorEq, ν1, ν2, ν3, ν4, ν5, ζ1, ζ2, ζ3, ζ4, ζ5, tn_sub1, k1, k2, hlen, w_i64, Int.toNat_natCast])))
        (refine (less_spec _ _ _).mono ?_; rintro r M3 ⟨rfl, rfl⟩; try refine ⟨Fr.refl _, ?_⟩)
        (repeat (first | refine st ?_ | refine σa ?_ | refine d113_SoH ?_ | ((first | refine a113_SoH ?_ | refine σb ?_ | refine σc ?_); simp (disch := omega) only [push_cast, ↓reduceIte, reduceCtorEq, ν1, ν2, ν3, ν4, ν5, ζ1, ζ2, ζ3, ζ4, ζ5])))
        ((first | refine AL.gu rfl (fun hz => ?_) (fun hz => ?_) | refine AW.condS rfl rfl (fun hz => ?_) (fun hz => ?_)) <;> (try (have hz' := hz; simp only [Bool.not_eq_true', Bool.not_eq_false', Bool.not_true, Bool.not_false, decide_eq_true_eq, decide_eq_false_iff_not, Classical.not_not, Int.not_lt, Int.not_le, gt_iff_lt, ge_iff_le, beq_iff_eq] at hz')))
        ·(repeat (first | refine st ?_ | refine σa ?_ | refine d113_SoH ?_ | ((first | refine a113_SoH ?_ | refine σb ?_ | refine σc ?_); simp (disch := omega) only [push_cast, ↓reduceIte, reduceCtorEq, ν1, ν2, ν3, ν4, ν5, ζ1, ζ2, ζ3, ζ4, ζ5])))
         exact ⟨rfl, ws, rfl, hQ, hSw⟩
        ·have hR3 := h.put (ys := ws.set k (ws.getD (k - 1) 0)) (by simp; omega)
         (repeat (first | refine st ?_ | refine σa ?_ | refine d113_SoH ?_ | ((first | refine a113_SoH ?_ | refine σb ?_ | refine σc ?_); simp (disch := omega) only [push_cast, ↓reduceIte, reduceCtorEq, ν1, ν2, ν3, ν4, ν5, ζ1, ζ2, ζ3, ζ4, ζ5, tn_sub1, k1, k2, hlen, w_i64, Int.toNat_natCast, hRw.get, hR3.get, hRw.room, hR3.room, hRw.spl, hR3.spl, Option.some.injEq, exists_eq_left', List.set_set, List.length_set, Blk.put, Blk.ours, Blk.cells])))
         exact ⟨rfl, m2 - 1, by omega, k + 1, rfl, by omega, by omega, by omega, _, rfl, hQ.trans (PermOn.swap (by omega) (by omega) (by omega) (by omega) (by omega)), hSw.out (by omega) (by omega) (by omega) (by omega)⟩
       ·(repeat (first | refine st ?_ | refine σa ?_ | refine d113_SoH ?_ | ((first | refine a113_SoH ?_ | refine σb ?_ | refine σc ?_); simp (disch := omega) only [push_cast, ↓reduceIte, reduceCtorEq, ν1, ν2, ν3, ν4, ν5, ζ1, ζ2, ζ3, ζ4, ζ5])))
        exact ⟨rfl, ws, rfl, hQ, hSw⟩
      ·(repeat (first | refine st ?_ | refine σa ?_ | refine d113_SoH ?_ | ((first | refine a113_SoH ?_ | refine σb ?_ | refine σc ?_); simp (disch := omega) only [push_cast, ↓reduceIte, reduceCtorEq, ν1, ν2, ν3, ν4, ν5, ζ1, ζ2, ζ3, ζ4, ζ5])))
       exact ⟨(over_self _ _).symm, zs, rfl, hQ, hSz⟩
     rintro g4 M4 ⟨ws, rfl, hQ2, hSw⟩
     simp (disch := omega) only [push_cast, ↓reduceIte, reduceCtorEq, Nat.reduceAdd, Nat.reduceMul, Nat.reduceLeDiff, Nat.reduceLT, Nat.reduceSub, Int.reduceNe, Int.reduceEq, Int.reduceLE, Int.reduceLT, Int.reduceToNat]
     (repeat (first | refine st ?_ | refine σa ?_ | refine d113_SoH ?_ | ((first | refine a113_SoH ?_ | refine σb ?_ | refine σc ?_); simp (disch := omega) only [push_cast, ↓reduceIte, reduceCtorEq, ν1, ν2, ν3, ν4, ν5, ζ1, ζ2, ζ3, ζ4, ζ5, w_i64])))
     exact ⟨rfl, m - 1, by omega, rfl, i, rfl, j + 1, rfl, by omega, by omega, by omega, ws, rfl, hQ2, hSw⟩
  ·obtain rfl : i = e := by omega
   have hd : decide ((i : Int) < i) = false := decide_eq_false (by omega)
   have hd2 : decide ((i : Int) = i) = true := decide_eq_true rfl
   (repeat (first | refine st ?_ | refine σa ?_ | refine d113_SoH ?_ | ((first | refine a113_SoH ?_ | refine σb ?_ | refine σc ?_); simp (disch := omega) only [push_cast, ↓reduceIte, reduceCtorEq, ν1, ν2, ν3, ν4, ν5, ζ1, ζ2, ζ3, ζ4, ζ5, hd, hd2])))
   ((first | refine retA.ret (by rfl) ?_ | refine retA.normal (by rfl) ?_); simp (disch := omega) only [push_cast, ↓reduceIte, reduceCtorEq, Nat.reduceAdd, Nat.reduceMul, Nat.reduceLeDiff, Nat.reduceLT, Nat.reduceSub, Int.reduceNe, Int.reduceEq, Int.reduceLE, Int.reduceLT, Int.reduceToNat])
   exact ⟨true, rfl, ys, rfl, hP, fun _ => hS⟩
 ·(repeat (first | refine st ?_ | refine σa ?_ | refine d113_SoH ?_ | ((first | refine a113_SoH ?_ | refine σb ?_ | refine σc ?_); simp (disch := omega) only [push_cast, ↓reduceIte, reduceCtorEq, ν1, ν2, ν3, ν4, ν5, ζ1, ζ2, ζ3, ζ4, ζ5])))
  ((first | refine retA.ret (by rfl) ?_ | refine retA.normal (by rfl) ?_); simp (disch := omega) only [push_cast, ↓reduceIte, reduceCtorEq, Nat.reduceAdd, Nat.reduceMul, Nat.reduceLeDiff, Nat.reduceLT, Nat.reduceSub, Int.reduceNe, Int.reduceEq, Int.reduceLE, Int.reduceLT, Int.reduceToNat])
  exact ⟨false, rfl, ys, rfl, hP, fun h => by cases h⟩
def strOf (f : Func) : ByteArray := match f.body with
 | some b => strC b
 | none => .empty
where
 strC : Code → ByteArray
 | .seq x y => if (strC y).size = 0 then strC x else strC y
 | .region _ ops _ => ops.toList.foldl (fun s o => match o.op with | .index _ (.const (.string s')) _ => s' | _ => s) .empty
 | _ => .empty
theorem tab_all : ((List.range 256).all fun q => match (strOf Try.f118)[q]? with
  | some b => decide (b.toNat ≤ 8) && (q == 0 || decide (2 ^ b.toNat ≤ 2 * q))
  | none => false) = true := by kernel_rfl
theorem tab_idx (q : Nat) (h : q < 256) : ∃ k : Nat, aindexX Try.prog (some .string) (.string (strOf Try.f118)) (.int .u8 q) = some (.int .u8 k) ∧ k ≤ 8 ∧ (0 < q → 2 ^ k ≤ 2 * q) := by
 have h1 := List.all_eq_true.1 tab_all q (List.mem_range.2 h)
 cases hb : (strOf Try.f118)[q]? with
 | none => rw [hb] at h1; cases h1
 | some b =>
  rw [hb] at h1
  simp only [Bool.and_eq_true, decide_eq_true_eq, Bool.or_eq_true, beq_iff_eq] at h1
  refine ⟨b.toNat, ?_, h1.1, fun h0 => h1.2.resolve_left (by omega)⟩
  show (if (0 : Int) ≤ (q : Int) then match (strOf Try.f118)[(q : Int).toNat]? with
    | some b => some (Value.int .u8 b.toNat)
    | none => none
   else none) = _
  rw [if_pos (by omega)]
  simp only [Int.toNat_natCast, hb]
theorem len64_spec (n : Nat) (M : Mem) (hn : n ≤ 1000000000) : CallA Try.prog 118 [.int .u64 n] M fun v M' => ∃ k : Nat, v = .int .i64 k ∧ k ≤ 32 ∧ (0 < n → 2 ^ k ≤ 2 * n) ∧ M' = M := by
 have f0 : decide ((n : Int) ≥ 4294967296) = false := decide_eq_false (by omega)
 have s16 : (2 : Int) ^ min 16 IntKind.u64.bits = 65536 := by decide
 have s8 : (2 : Int) ^ min 8 IntKind.u64.bits = 256 := by decide
 (refine CallA.of_body Try.func118 rfl (by rfl) ?_; simp only [Try.ntmps118, List.length_cons, List.length_nil, List.replicate, List.cons_append, List.nil_append, Nat.reduceSub, Nat.reduceAdd])
 (repeat (first | refine st ?_ | refine σa ?_ | (refine σb ?_; simp (disch := omega) only [push_cast, ↓reduceIte, reduceCtorEq, ν1, ν2, ν3, ν4, ν5, ζ1, ζ2, ζ3, ζ4, ζ5, f0])))
 refine AW.joinF [0, 2, 9, 10, 11, 12] (fun g M' => M' = M ∧ ∃ q : Nat, g 0 = .int .u64 q ∧ ∃ s : Nat, g 2 = .int .i64 s ∧ q < 65536 ∧ s ≤ 16 ∧ (0 < n → 0 < q) ∧ 2 ^ s * q ≤ n) ?_ ?_
 ·((first | refine AL.gu rfl (fun h1 => ?_) (fun h1 => ?_) | refine AW.condS rfl rfl (fun h1 => ?_) (fun h1 => ?_)) <;> (try (have h1' := h1; simp only [Bool.not_eq_true', Bool.not_eq_false', Bool.not_true, Bool.not_false, decide_eq_true_eq, decide_eq_false_iff_not, Classical.not_not, Int.not_lt, Int.not_le, gt_iff_lt, ge_iff_le, beq_iff_eq] at h1')))
  ·obtain ⟨q, hq, hq2⟩ : ∃ q : Nat, (n : Int) / 65536 = q ∧ q = n / 65536 := ⟨n / 65536, by omega, rfl⟩
   (repeat (first | refine st ?_ | refine σa ?_ | (refine σb ?_; simp (disch := omega) only [push_cast, ↓reduceIte, reduceCtorEq, ν1, ν2, ν3, ν4, ν5, ζ1, ζ2, ζ3, ζ4, ζ5, s16, fdiv_in, hq, w_i64])))
   exact ⟨rfl, rfl, q, rfl, 16, rfl, by omega, by omega, by omega, by omega⟩
  ·(repeat (first | refine st ?_ | refine σa ?_ | (refine σb ?_; simp (disch := omega) only [push_cast, ↓reduceIte, reduceCtorEq, ν1, ν2, ν3, ν4, ν5, ζ1, ζ2, ζ3, ζ4, ζ5])))
   exact ⟨rfl, rfl, n, rfl, 0, rfl, by omega, by omega, by omega, by omega⟩
 rintro g1 M1 ⟨rfl, q, h0, s, h2, hq1, hq2, hq3, hq4⟩
 simp (disch := omega) only [push_cast, ↓reduceIte, reduceCtorEq, Nat.reduceAdd, Nat.reduceMul, Nat.reduceLeDiff, Nat.reduceLT, Nat.reduceSub, Int.reduceNe, Int.reduceEq, Int.reduceLE, Int.reduceLT, Int.reduceToNat, h0, h2]
 (repeat (first | refine st ?_ | refine σa ?_ | (refine σb ?_; simp (disch := omega) only [push_cast, ↓reduceIte, reduceCtorEq, ν1, ν2, ν3, ν4, ν5, ζ1, ζ2, ζ3, ζ4, ζ5])))
 refine AW.joinF [0, 2, 15, 16, 17, 18] (fun g M' => M' = M1 ∧ ∃ q : Nat, g 0 = .int .u64 q ∧ ∃ s : Nat, g 2 = .int .i64 s ∧ q < 256 ∧ s ≤ 24 ∧ (0 < n → 0 < q) ∧ 2 ^ s * q ≤ n) ?_ ?_
 ·((first | refine AL.gu rfl (fun h1 => ?_) (fun h1 => ?_) | refine AW.condS rfl rfl (fun h1 => ?_) (fun h1 => ?_)) <;> (try (have h1' := h1; simp only [Bool.not_eq_true', Bool.not_eq_false', Bool.not_true, Bool.not_false, decide_eq_true_eq, decide_eq_false_iff_not, Classical.not_not, Int.not_lt, Int.not_le, gt_iff_lt, ge_iff_le, beq_iff_eq] at h1')))
  ·obtain ⟨u, hu, hu2⟩ : ∃ u : Nat, (q : Int) / 256 = u ∧ u = q / 256 := ⟨q / 256, by omega, rfl⟩
   (repeat (first | refine st ?_ | refine σa ?_ | (refine σb ?_; simp (disch := omega) only [push_cast, ↓reduceIte, reduceCtorEq, ν1, ν2, ν3, ν4, ν5, ζ1, ζ2, ζ3, ζ4, ζ5, s8, fdiv_in, hu, w_i64])))
   refine ⟨rfl, rfl, u, rfl, s + 8, rfl, by omega, by omega, by omega, ?_⟩
   refine Nat.le_trans ?_ hq4
   rw [Nat.pow_add, Nat.mul_assoc]
   exact Nat.mul_le_mul_left _ (by omega)
  ·(repeat (first | refine st ?_ | refine σa ?_ | (refine σb ?_; simp (disch := omega) only [push_cast, ↓reduceIte, reduceCtorEq, ν1, ν2, ν3, ν4, ν5, ζ1, ζ2, ζ3, ζ4, ζ5])))
   exact ⟨rfl, rfl, q, rfl, s, rfl, by omega, by omega, hq3, hq4⟩
 clear h0 h2 hq1 hq2 hq3 hq4
 rintro g2 M2 ⟨rfl, q, h0, s, h2, hq1, hq2, hq3, hq4⟩
 simp (disch := omega) only [push_cast, ↓reduceIte, reduceCtorEq, Nat.reduceAdd, Nat.reduceMul, Nat.reduceLeDiff, Nat.reduceLT, Nat.reduceSub, Int.reduceNe, Int.reduceEq, Int.reduceLE, Int.reduceLT, Int.reduceToNat, h0, h2]
 obtain ⟨k, hk, hk1, hk2⟩ := tab_idx q hq1
 (repeat (first | refine st ?_ | refine σa ?_ | (refine σb ?_; simp (disch := omega) only [push_cast, ↓reduceIte, reduceCtorEq, ν1, ν2, ν3, ν4, ν5, ζ1, ζ2, ζ3, ζ4, ζ5, w_u8])))
 refine ⟨_, hk, ?_⟩
 (repeat (first | refine st ?_ | refine σa ?_ | (refine σb ?_; simp (disch := omega) only [push_cast, ↓reduceIte, reduceCtorEq, ν1, ν2, ν3, ν4, ν5, ζ1, ζ2, ζ3, ζ4, ζ5, w_i64])))
 ((first | refine retA.ret (by rfl) ?_ | refine retA.normal (by rfl) ?_); simp (disch := omega) only [push_cast, ↓reduceIte, reduceCtorEq, Nat.reduceAdd, Nat.reduceMul, Nat.reduceLeDiff, Nat.reduceLT, Nat.reduceSub, Int.reduceNe, Int.reduceEq, Int.reduceLE, Int.reduceLT, Int.reduceToNat])
 refine ⟨s + k, rfl, by omega, fun h0 => ?_⟩
 rw [Nat.pow_add]
 refine Nat.le_trans (Nat.mul_le_mul_left _ (hk2 (hq3 h0))) ?_
 rw [Nat.mul_left_comm]
 omega
theorem len_spec (n : Nat) (M : Mem) (hn : n ≤ 1000000000) : CallA Try.prog 78 [.int .u64 n] M fun v M' => ∃ k : Nat, v = .int .i64 k ∧ k ≤ 32 ∧ (0 < n → 2 ^ k ≤ 2 * n) ∧ M' = M := by
 (refine CallA.of_body Try.func78 rfl (by rfl) ?_; simp only [Try.ntmps78, List.length_cons, List.length_nil, List.replicate, List.cons_append, List.nil_append, Nat.reduceSub, Nat.reduceAdd])
 (repeat (first | refine st ?_ | refine σa ?_ | (refine σb ?_; simp (disch := omega) only [push_cast, ↓reduceIte, reduceCtorEq, ν1, ν2, ν3, ν4, ν5, ζ1, ζ2, ζ3, ζ4, ζ5])))
 refine (len64_spec n M hn).mono ?_
 rintro v M1 ⟨k, rfl, h1, h2, rfl⟩
 (repeat (first | refine st ?_ | refine σa ?_ | (refine σb ?_; simp (disch := omega) only [push_cast, ↓reduceIte, reduceCtorEq, ν1, ν2, ν3, ν4, ν5, ζ1, ζ2, ζ3, ζ4, ζ5])))
 ((first | refine retA.ret (by rfl) ?_ | refine retA.normal (by rfl) ?_); simp (disch := omega) only [push_cast, ↓reduceIte, reduceCtorEq, Nat.reduceAdd, Nat.reduceMul, Nat.reduceLeDiff, Nat.reduceLT, Nat.reduceSub, Int.reduceNe, Int.reduceEq, Int.reduceLE, Int.reduceLT, Int.reduceToNat])
 exact ⟨k, rfl, h1, h2⟩
theorem pow_spec (n : Nat) (M : Mem) (hn : n ≤ 1000000000) (h0 : 0 < n) : CallA Try.prog 134 [.int .i64 n] M fun v M' => ∃ m : Nat, v = .int .u64 m ∧ 1 ≤ m ∧ m ≤ 2 * n ∧ M' = M := by
 (refine CallA.of_body Try.func134 rfl (by rfl) ?_; simp only [Try.ntmps134, List.length_cons, List.length_nil, List.replicate, List.cons_append, List.nil_append, Nat.reduceSub, Nat.reduceAdd])
 (repeat (first | refine st ?_ | refine σa ?_ | (refine σb ?_; simp (disch := omega) only [push_cast, ↓reduceIte, reduceCtorEq, ν1, ν2, ν3, ν4, ν5, ζ1, ζ2, ζ3, ζ4, ζ5, w_u64])))
 refine (len_spec n M hn).mono ?_
 rintro v M1 ⟨k, rfl, h1, h2, rfl⟩
 have hk : 2 ^ k ≤ 2 ^ 32 := Nat.pow_le_pow_right (by omega) h1
 have h2' := h2 h0
 have := Nat.two_pow_pos k
 have e : IntKind.u64.wrap (1 * 2 ^ min (k : Int).toNat IntKind.u64.bits) = ((2 ^ k : Nat) : Int) := by
  rw [show min (k : Int).toNat IntKind.u64.bits = k from by show min (k : Int).toNat 64 = k; omega, Int.one_mul]
  have e : ((2 ^ k : Nat) : Int) = 2 ^ k := by simp
  rw [← e]
  exact w_u64 (by omega) (by omega)
 generalize 2 ^ k = m at *
 (repeat (first | refine st ?_ | refine σa ?_ | (refine σb ?_; simp (disch := omega) only [push_cast, ↓reduceIte, reduceCtorEq, ν1, ν2, ν3, ν4, ν5, ζ1, ζ2, ζ3, ζ4, ζ5, e])))
 ((first | refine retA.ret (by rfl) ?_ | refine retA.normal (by rfl) ?_); simp (disch := omega) only [push_cast, ↓reduceIte, reduceCtorEq, Nat.reduceAdd, Nat.reduceMul, Nat.reduceLeDiff, Nat.reduceLT, Nat.reduceSub, Int.reduceNe, Int.reduceEq, Int.reduceLE, Int.reduceLT, Int.reduceToNat])
 exact ⟨m, rfl, by omega, by omega⟩
end Go.Proofs.Ytbdejnnbpdgjlaa.Ax
