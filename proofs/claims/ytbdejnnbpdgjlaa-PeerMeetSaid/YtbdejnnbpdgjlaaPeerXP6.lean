/- Contracts of functions over the abstract machine. No conditions: lemmas alone. -/
import Derived.Test.YtbdejnnbpdgjlaaPeerXLibD
import Derived.Test.YtbdejnnbpdgjlaaPeerXP0
import Derived.Test.YtbdejnnbpdgjlaaPeerXP2
namespace Go.Proofs.Ytbdejnnbpdgjlaa.Ax
open Go Go.RowKit
open Nat renaming reduceAdd → ν1, reduceMul → ν2, reduceLeDiff → ν3, reduceLT → ν4, reduceSub → ν5
open Int renaming reduceNe → ζ1, reduceEq → ζ2, reduceLE → ζ3, reduceLT → ζ4, reduceToNat → ζ5
set_option linter.unusedVariables false
set_option linter.unusedSimpArgs false
set_option maxRecDepth 100000
set_option maxHeartbeats 20000000
attribute [local irreducible] thenA blockA scopeA retA AL AW AD ADL AH clrK CallA apure aload bload appK ptrK fnK ares szOk planOk okOps
theorem d116_SoL {g n : Prop} (k : n) (h : n → g := by first | exact AW.dr (id := 1) (by rfl) [0, 1, 2, 3, 4, 5, 6, 7, 8, 9, 10, 11, 12, 13, 14, 15] (by kernel_rfl) (by kernel_rfl) | exact AW.dr (id := 3) (by rfl) [0, 1, 2, 3, 4, 5, 6, 7, 8, 9, 10, 11, 12, 13] (by kernel_rfl) (by kernel_rfl) | exact AW.dr (id := 5) (by rfl) [0, 1, 2, 3, 4, 5, 6, 7, 8, 9, 10, 11, 12, 13, 14] (by kernel_rfl) (by kernel_rfl) | exact AW.dr (id := 8) (by rfl) [0, 1, 2, 3, 4, 5, 6, 7, 8, 9, 10, 11, 12, 13, 14, 15] (by kernel_rfl) (by kernel_rfl) | exact AW.dr (id := 10) (by rfl) [0, 1, 2, 3, 4, 5, 6, 7, 8, 9, 10, 11, 12, 13, 14, 15] (by kernel_rfl) (by kernel_rfl) | exact AW.dr (id := 13) (by rfl) [0, 1, 2, 3, 4, 5, 6, 7, 8, 9, 10, 11, 12, 13] (by kernel_rfl) (by kernel_rfl) | exact AW.dr (id := 15) (by rfl) [0, 1, 2, 3, 4, 5, 6, 7, 8, 9, 10, 11, 12, 13, 14] (by kernel_rfl) (by kernel_rfl) | exact AW.dr (id := 18) (by rfl) [0, 1, 2, 3, 4, 5, 6, 7, 8, 9, 10, 11, 12, 13, 14, 15] (by kernel_rfl) (by kernel_rfl) | exact AW.dr (id := 21) (by rfl) [0, 1, 2, 3, 4, 5, 6, 7, 8, 9, 10, 11, 12, 13, 14, 15] (by kernel_rfl) (by kernel_rfl)) : g := h k
theorem PartAt.of {ys : List Int} {a e j : Nat} (ha : a ≤ j) (he : j < e) (hl : e ≤ ys.length) (hlo : ∀ q, a < q → q < j + 1 → ys.getD q 0 < ys.getD a 0) (hup : ∀ q, j < q → q < e → ys.getD a 0 ≤ ys.getD q 0) : PartAt a e j (swap ys j a) := by
 have hg : ∀ k, k < e → (swap ys j a).getD k 0 = if k = a then ys.getD j 0 else if k = j then ys.getD a 0 else ys.getD k 0 := fun k hk => swap_get (by omega) (by omega) (by omega)
 have hj : (swap ys j a).getD j 0 = ys.getD a 0 := by
  rw [hg j he]
  by_cases e1 : j = a
  ·rw [if_pos e1, e1]
  ·rw [if_neg e1, if_pos rfl]
 refine ⟨ha, he, fun i h1 h2 => ?_, fun i h1 h2 => ?_⟩
 ·rw [hj, hg i (by omega)]
  by_cases e1 : i = a
  ·rw [if_pos e1]; exact Int.le_of_lt (hlo j (by omega) (by omega))
  ·rw [if_neg e1, if_neg (by omega)]; exact Int.le_of_lt (hlo i (by omega) (by omega))
 ·rw [hj, hg i (by omega), if_neg (by omega), if_neg (by omega)]; exact hup i h1 h2
theorem pt_spec {M : Mem} {b off n c : Nat} {pre post : List Value} {xs : List Int} (h : Rw M b off n c pre post xs) (a e p : Nat) (ha : a ≤ p) (hp : p < e) (he : e ≤ n) (hn : n ≤ 1000000000) :
  CallA Try.prog 116 [.slice (some ⟨b, off, none⟩) n c, .int .i64 a, .int .i64 e, .int .i64 p] M fun v M' => ∃ (m : Nat) (d : Bool) (ys : List Int), v = .tuple ⟨[.int .i64 m, .bool d]⟩ ∧ M' = M.set b (.row true 1 (pre ++ ints .u32 ys ++ post)) ∧ PermOn a e xs ys ∧ PartAt a e m ys := by
 have hlen := h.len
 have hd0 : (swap xs a p).getD a 0 = xs.getD p 0 := by
  rw [swap_get (by omega) (by omega) (by omega)]
  by_cases e1 : a = p
  ·rw [if_pos e1, e1]
  ·rw [if_neg e1, if_pos rfl]
 have hz := h.put (ys := swap xs a p) (swap_length _ _ _)
 have hP0 : PermOn a e xs (swap xs a p) := PermOn.swap (by omega) (by omega) (by omega) (by omega) (by omega)
 have l1 := h.ld (i := p) (by omega)
 have l2 := h.ld (i := a) (by omega)
 have hR1 := h.put (ys := xs.set a (xs.getD p 0)) (by simp)
 (refine CallA.of_body Try.func116 rfl (by rfl) ?_; simp only [Try.ntmps116, List.length_cons, List.length_nil, List.replicate, List.cons_append, List.nil_append, Nat.reduceSub, Nat.reduceAdd])
 (repeat (first | refine st ?_ | refine σa ?_ | refine d116_SoL ?_ | ((first | refine σb ?_ | refine σc ?_); simp (disch := omega) only [push_cast, ↓reduceIte, reduceCtorEq, ν1, ν2, ν3, ν4, ν5, ζ1, ζ2, ζ3, ζ4, ζ5, l1, l2, hlen, w_i64, Int.toNat_natCast, h.get, hR1.get, h.room, hR1.room, h.spl, hR1.spl, Option.some.injEq, exists_eq_left', List.set_set, List.length_set, Blk.put, Blk.ours, Blk.cells])))
 clear l1 l2 hR1
 have e1 : (e : Int) - 1 = ((e - 1 : Nat) : Int) := by omega
 have e2 : (a : Int) + 1 = ((a + 1 : Nat) : Int) := by omega
 rw [e1, e2]
 generalize hi0 : a + 1 = i0
 generalize hj0 : e - 1 = j
 have hij0 : i0 ≤ j + 1 := by omega
 have hj : j < e := by omega
 obtain ⟨ys, hys⟩ : ∃ ys, ys = swap xs a p := ⟨_, rfl⟩
 have hyl : ys.length = xs.length := by rw [hys]; exact swap_length _ _ _
 have hlo : ∀ q, a < q → q < i0 → ys.getD q 0 < xs.getD p 0 := fun q h1 h2 => by omega
 have hup : ∀ q, j < q → q < e → xs.getD p 0 ≤ ys.getD q 0 := fun q h1 h2 => by omega
 rw [← hys] at hd0 hz hP0
 have eys : (xs.set a (xs.getD p 0)).set p (xs.getD a 0) = ys := hys.symm
 rw [eys]
 have h10 : True := trivial
 have hR := hz
 have la := hR.ld (i := a) (by omega)
 rw [hd0] at la
 refine AW.loopX 0 [10, 30, 31, 32, 33, 34, 35, 36, 37, 38, 39, 40, 41, 42, 43, 44, 45] (fun m g M' => ∃ i : Nat, g 10 = .int .i64 i ∧ i0 ≤ i ∧ i ≤ j + 1 ∧ j + 1 ≤ i + m ∧ M' = M.set b (.row true 1 (pre ++ ints .u32 ys ++ post)) ∧ ∀ q, a < q → q < i → ys.getD q 0 < xs.getD p 0)
  (fun g M' => ∃ i : Nat, g 10 = .int .i64 i ∧ i0 ≤ i ∧ i ≤ j + 1 ∧ M' = M.set b (.row true 1 (pre ++ ints .u32 ys ++ post)) ∧ (∀ q, a < q → q < i → ys.getD q 0 < xs.getD p 0) ∧ (i ≤ j → xs.getD p 0 ≤ ys.getD i 0)) (e + 1) ?_ ?_ ?_
 ·exact ⟨i0, rfl, by omega, hij0, by omega, rfl, hlo⟩
 ·clear hij0 hlo
  rintro m1 g1 M2 ⟨i, h9, hi1, hij, hm1, rfl, hlo⟩
  simp (disch := omega) only [push_cast, ↓reduceIte, reduceCtorEq, Nat.reduceAdd, Nat.reduceMul, Nat.reduceLeDiff, Nat.reduceLT, Nat.reduceSub, Int.reduceNe, Int.reduceEq, Int.reduceLE, Int.reduceLT, Int.reduceToNat, h9]
  by_cases hle : i ≤ j
  ·have hd : decide ((i : Int) ≤ j) = true := decide_eq_true (by omega)
   have l1 := hR.ld (i := i) (by omega)
   (repeat (first | refine st ?_ | refine σa ?_ | refine d116_SoL ?_ | ((first | refine σb ?_ | refine σc ?_); simp (disch := omega) only [push_cast, ↓reduceIte, reduceCtorEq, ν1, ν2, ν3, ν4, ν5, ζ1, ζ2, ζ3, ζ4, ζ5, hd, la, l1, hlen, w_i64, Int.toNat_natCast])))
   (refine (less_spec _ _ _).mono ?_; rintro r M3 ⟨rfl, rfl⟩; try refine ⟨Fr.refl _, ?_⟩)
   (repeat (first | refine st ?_ | refine σa ?_ | refine d116_SoL ?_ | ((first | refine σb ?_ | refine σc ?_); simp (disch := omega) only [push_cast, ↓reduceIte, reduceCtorEq, ν1, ν2, ν3, ν4, ν5, ζ1, ζ2, ζ3, ζ4, ζ5, hd])))
   ((first | refine AL.gu rfl (fun hc => ?_) (fun hc => ?_) | refine AW.condS rfl rfl (fun hc => ?_) (fun hc => ?_)) <;> (try (have hc' := hc; simp only [Bool.not_eq_true', Bool.not_eq_false', Bool.not_true, Bool.not_false, decide_eq_true_eq, decide_eq_false_iff_not, Classical.not_not, Int.not_lt, Int.not_le, gt_iff_lt, ge_iff_le, beq_iff_eq] at hc')))
   ·(repeat (first | refine st ?_ | refine σa ?_ | refine d116_SoL ?_ | ((first | refine σb ?_ | refine σc ?_); simp (disch := omega) only [push_cast, ↓reduceIte, reduceCtorEq, ν1, ν2, ν3, ν4, ν5, ζ1, ζ2, ζ3, ζ4, ζ5, w_i64])))
    refine ⟨rfl, m1 - 1, by omega, i + 1, rfl, by omega, by omega, by omega, rfl, fun q h1 h2 => ?_⟩
    by_cases hq : q = i
    ·rw [hq]; exact hc'
    ·exact hlo q h1 (by omega)
   ·(repeat (first | refine st ?_ | refine σa ?_ | refine d116_SoL ?_ | ((first | refine σb ?_ | refine σc ?_); simp (disch := omega) only [push_cast, ↓reduceIte, reduceCtorEq, ν1, ν2, ν3, ν4, ν5, ζ1, ζ2, ζ3, ζ4, ζ5])))
    exact ⟨rfl, i, rfl, hi1, hij, rfl, hlo, fun _ => hc'⟩
  ·have hd : decide ((i : Int) ≤ j) = false := decide_eq_false (by omega)
   (repeat (first | refine st ?_ | refine σa ?_ | refine d116_SoL ?_ | ((first | refine σb ?_ | refine σc ?_); simp (disch := omega) only [push_cast, ↓reduceIte, reduceCtorEq, ν1, ν2, ν3, ν4, ν5, ζ1, ζ2, ζ3, ζ4, ζ5, hd])))
   exact ⟨rfl, i, rfl, hi1, hij, rfl, hlo, fun h => absurd h hle⟩
 clear hlo
 rintro g1 M2 ⟨i, h9, hi1, hij, rfl, hlo, hex⟩
 simp (disch := omega) only [push_cast, ↓reduceIte, reduceCtorEq, Nat.reduceAdd, Nat.reduceMul, Nat.reduceLeDiff, Nat.reduceLT, Nat.reduceSub, Int.reduceNe, Int.reduceEq, Int.reduceLE, Int.reduceLT, Int.reduceToNat, h9]
 (repeat (first | refine st ?_ | refine σa ?_ | refine d116_SoL ?_ | ((first | refine σb ?_ | refine σc ?_); simp (disch := omega) only [push_cast, ↓reduceIte, reduceCtorEq, ν1, ν2, ν3, ν4, ν5, ζ1, ζ2, ζ3, ζ4, ζ5])))
 clear h10
 refine AW.loopX 2 [11, 46, 47, 48, 49, 50, 51, 52, 53, 54, 55, 56, 57, 58, 59, 60, 61, 62] (fun m' g M' => ∃ j' : Nat, g 11 = .int .i64 j' ∧ j' ≤ j ∧ i ≤ j' + 1 ∧ j' ≤ m' ∧ M' = M.set b (.row true 1 (pre ++ ints .u32 ys ++ post)) ∧ ∀ q, j' < q → q < e → xs.getD p 0 ≤ ys.getD q 0)
  (fun g M' => ∃ j' : Nat, g 11 = .int .i64 j' ∧ j' ≤ j ∧ i ≤ j' + 1 ∧ M' = M.set b (.row true 1 (pre ++ ints .u32 ys ++ post)) ∧ (∀ q, j' < q → q < e → xs.getD p 0 ≤ ys.getD q 0) ∧ (i ≤ j' → ys.getD j' 0 < xs.getD p 0)) j ?_ ?_ ?_
 ·exact ⟨j, rfl, by omega, hij, by omega, rfl, hup⟩
 ·clear hup
  rintro m1 g1 M2 ⟨k, h10, hk1, hk2, hk3, rfl, hup⟩
  simp (disch := omega) only [push_cast, ↓reduceIte, reduceCtorEq, Nat.reduceAdd, Nat.reduceMul, Nat.reduceLeDiff, Nat.reduceLT, Nat.reduceSub, Int.reduceNe, Int.reduceEq, Int.reduceLE, Int.reduceLT, Int.reduceToNat, h10]
  by_cases hle : i ≤ k
  ·have hd : decide ((i : Int) ≤ k) = true := decide_eq_true (by omega)
   have l1 := hR.ld (i := k) (by omega)
   (repeat (first | refine st ?_ | refine σa ?_ | refine d116_SoL ?_ | ((first | refine σb ?_ | refine σc ?_); simp (disch := omega) only [push_cast, ↓reduceIte, reduceCtorEq, ν1, ν2, ν3, ν4, ν5, ζ1, ζ2, ζ3, ζ4, ζ5, hd, la, l1, hlen, w_i64, Int.toNat_natCast])))
   (refine (less_spec _ _ _).mono ?_; rintro r M3 ⟨rfl, rfl⟩; try refine ⟨Fr.refl _, ?_⟩)
   (repeat (first | refine st ?_ | refine σa ?_ | refine d116_SoL ?_ | ((first | refine σb ?_ | refine σc ?_); simp (disch := omega) only [push_cast, ↓reduceIte, reduceCtorEq, ν1, ν2, ν3, ν4, ν5, ζ1, ζ2, ζ3, ζ4, ζ5, hd])))
   ((first | refine AL.gu rfl (fun hc => ?_) (fun hc => ?_) | refine AW.condS rfl rfl (fun hc => ?_) (fun hc => ?_)) <;> (try (have hc' := hc; simp only [Bool.not_eq_true', Bool.not_eq_false', Bool.not_true, Bool.not_false, decide_eq_true_eq, decide_eq_false_iff_not, Classical.not_not, Int.not_lt, Int.not_le, gt_iff_lt, ge_iff_le, beq_iff_eq] at hc')))
   ·(repeat (first | refine st ?_ | refine σa ?_ | refine d116_SoL ?_ | ((first | refine σb ?_ | refine σc ?_); simp (disch := omega) only [push_cast, ↓reduceIte, reduceCtorEq, ν1, ν2, ν3, ν4, ν5, ζ1, ζ2, ζ3, ζ4, ζ5, w_i64])))
    refine ⟨rfl, m1 - 1, by omega, k - 1, congrArg (Value.int .i64) (by omega), by omega, by omega, by omega, rfl, fun q h1 h2 => ?_⟩
    by_cases hq : q = k
    ·rw [hq]; exact hc'
    ·exact hup q (by omega) h2
   ·(repeat (first | refine st ?_ | refine σa ?_ | refine d116_SoL ?_ | ((first | refine σb ?_ | refine σc ?_); simp (disch := omega) only [push_cast, ↓reduceIte, reduceCtorEq, ν1, ν2, ν3, ν4, ν5, ζ1, ζ2, ζ3, ζ4, ζ5])))
    exact ⟨rfl, k, rfl, hk1, hk2, rfl, hup, fun _ => hc'⟩
  ·have hd : decide ((i : Int) ≤ k) = false := decide_eq_false (by omega)
   (repeat (first | refine st ?_ | refine σa ?_ | refine d116_SoL ?_ | ((first | refine σb ?_ | refine σc ?_); simp (disch := omega) only [push_cast, ↓reduceIte, reduceCtorEq, ν1, ν2, ν3, ν4, ν5, ζ1, ζ2, ζ3, ζ4, ζ5, hd])))
   exact ⟨rfl, k, rfl, hk1, hk2, rfl, hup, fun h => absurd h hle⟩
 clear hup
 rintro g2 M2 ⟨k, h10, hk1, hk2, rfl, hup, hex2⟩
 simp (disch := omega) only [push_cast, ↓reduceIte, reduceCtorEq, Nat.reduceAdd, Nat.reduceMul, Nat.reduceLeDiff, Nat.reduceLT, Nat.reduceSub, Int.reduceNe, Int.reduceEq, Int.reduceLE, Int.reduceLT, Int.reduceToNat, h10]
 (repeat (first | refine st ?_ | refine σa ?_ | refine d116_SoL ?_ | ((first | refine σb ?_ | refine σc ?_); simp (disch := omega) only [push_cast, ↓reduceIte, reduceCtorEq, ν1, ν2, ν3, ν4, ν5, ζ1, ζ2, ζ3, ζ4, ζ5])))
 ((first | refine AL.gu rfl (fun hgt => ?_) (fun hgt => ?_) | refine AW.condS rfl rfl (fun hgt => ?_) (fun hgt => ?_)) <;> (try (have hgt' := hgt; simp only [Bool.not_eq_true', Bool.not_eq_false', Bool.not_true, Bool.not_false, decide_eq_true_eq, decide_eq_false_iff_not, Classical.not_not, Int.not_lt, Int.not_le, gt_iff_lt, ge_iff_le, beq_iff_eq] at hgt')))
 ·obtain rfl : i = k + 1 := by omega
  have l1 := hR.ld (i := k) (by omega)
  have hR1 := h.put (ys := ys.set k (xs.getD p 0)) (by simp; omega)
  (repeat (first | refine st ?_ | refine σa ?_ | refine d116_SoL ?_ | ((first | refine σb ?_ | refine σc ?_); simp (disch := omega) only [push_cast, ↓reduceIte, reduceCtorEq, ν1, ν2, ν3, ν4, ν5, ζ1, ζ2, ζ3, ζ4, ζ5, la, l1, hlen, w_i64, Int.toNat_natCast, hR.get, hR1.get, hR.room, hR1.room, hR.spl, hR1.spl, Option.some.injEq, exists_eq_left', List.set_set, List.length_set, Blk.put, Blk.ours, Blk.cells])))
  ((first | refine retA.ret (by rfl) ?_ | refine retA.normal (by rfl) ?_); simp (disch := omega) only [push_cast, ↓reduceIte, reduceCtorEq, Nat.reduceAdd, Nat.reduceMul, Nat.reduceLeDiff, Nat.reduceLT, Nat.reduceSub, Int.reduceNe, Int.reduceEq, Int.reduceLE, Int.reduceLT, Int.reduceToNat])
  rw [← hd0] at hlo hup ⊢
  exact ⟨k, true, rfl, swap ys k a, rfl, hP0.trans (PermOn.swap (by omega) (by omega) (by omega) (by omega) (by omega)), PartAt.of (by omega) (by omega) (by omega) hlo hup⟩
 ·have hle : i ≤ k := by omega
  have x1 := hex (by omega)
  have x2 := hex2 hle
  have hne : i ≠ k := fun e => by rw [e] at x1; omega
  have l1 := hR.ld (i := k) (by omega)
  have l2 := hR.ld (i := i) (by omega)
  have hR1 := h.put (ys := ys.set i (ys.getD k 0)) (by simp; omega)
  (repeat (first | refine st ?_ | refine σa ?_ | refine d116_SoL ?_ | ((first | refine σb ?_ | refine σc ?_); simp (disch := omega) only [push_cast, ↓reduceIte, reduceCtorEq, ν1, ν2, ν3, ν4, ν5, ζ1, ζ2, ζ3, ζ4, ζ5, l1, l2, hlen, w_i64, Int.toNat_natCast, hR.get, hR1.get, hR.room, hR1.room, hR.spl, hR1.spl, Option.some.injEq, exists_eq_left', List.set_set, List.length_set, Blk.put, Blk.ours, Blk.cells])))
  have s0 : (swap ys i k).getD a 0 = xs.getD p 0 := by rw [swap_get (by omega) (by omega) (by omega), if_neg (by omega), if_neg (by omega)]; exact hd0
  have slo : ∀ q, a < q → q < i + 1 → (swap ys i k).getD q 0 < xs.getD p 0 := fun q h1 h2 => by
   rw [swap_get (by omega) (by omega) (by omega), if_neg (by omega)]
   by_cases hq : q = i
   ·rw [if_pos hq]; exact x2
   ·rw [if_neg hq]; exact hlo q h1 (by omega)
  have sup : ∀ q, k - 1 < q → q < e → xs.getD p 0 ≤ (swap ys i k).getD q 0 := fun q h1 h2 => by
   rw [swap_get (by omega) (by omega) (by omega)]
   by_cases hq : q = k
   ·rw [if_pos hq]; exact x1
   ·rw [if_neg hq, if_neg (by omega)]; exact hup q (by omega) h2
  have hPs := hP0.trans (PermOn.swap (lo := a) (hi := e) (i := i) (j := k) (xs := ys) (by omega) (by omega) (by omega) (by omega) (by omega))
  refine AW.loopF [10, 11, 99, 100, 101, 102, 103, 104, 105, 106, 107, 108, 109, 110, 111, 112, 113, 114, 115, 116, 117, 118, 119, 120, 121, 122, 123, 124, 125, 126, 127, 128, 129, 130, 131, 132, 133, 134, 135, 136, 137, 138, 139, 140, 141, 142, 143, 144, 145, 146, 147, 148, 149, 150, 151, 152] (fun m g M' => ∃ i : Nat, g 10 = .int .i64 i ∧ ∃ j : Nat, g 11 = .int .i64 j ∧ a + 1 ≤ i ∧ i ≤ j + 1 ∧ j < e ∧ j + 2 ≤ i + m ∧ ∃ ys, M' = M.set b (.row true 1 (pre ++ ints .u32 ys ++ post)) ∧ PermOn a e xs ys ∧ ys.getD a 0 = xs.getD p 0 ∧ (∀ q, a < q → q < i → ys.getD q 0 < xs.getD p 0) ∧ ∀ q, j < q → q < e → xs.getD p 0 ≤ ys.getD q 0) (e + 1) ?_ ?_
  ·exact ⟨i + 1, rfl, k - 1, congrArg (Value.int .i64) (by omega), by omega, by omega, by omega, by omega, swap ys i k, rfl, hPs, s0, slo, sup⟩
  clear hPs s0 slo sup hR1 l1 l2 x1 x2 hle hne hgt hgt' hex hex2 hup hlo hk1 hk2 h10 hij hi1 h9 la hR hyl hz hP0 hd0 eys hys hj hij0 hj0 hi0
  rintro m g M1 ⟨i0, h9, j, h10, hi0, hij0, hj, hm, ys, rfl, hP0, hd0, hlo, hup⟩
  have hyl := hP0.len
  have hR := h.put (ys := ys) (by omega)
  have la := hR.ld (i := a) (by omega)
  rw [hd0] at la
  simp (disch := omega) only [push_cast, ↓reduceIte, reduceCtorEq, Nat.reduceAdd, Nat.reduceMul, Nat.reduceLeDiff, Nat.reduceLT, Nat.reduceSub, Int.reduceNe, Int.reduceEq, Int.reduceLE, Int.reduceLT, Int.reduceToNat, h9, h10]
  (repeat (first | refine st ?_ | refine σa ?_ | refine d116_SoL ?_ | ((first | refine σb ?_ | refine σc ?_); simp (disch := omega) only [push_cast, ↓reduceIte, reduceCtorEq, ν1, ν2, ν3, ν4, ν5, ζ1, ζ2, ζ3, ζ4, ζ5])))
  clear h9
  refine AW.loopX 6 [10, 99, 100, 101, 102, 103, 104, 105, 106, 107, 108, 109, 110, 111, 112, 113, 114] (fun m g M' => ∃ i : Nat, g 10 = .int .i64 i ∧ i0 ≤ i ∧ i ≤ j + 1 ∧ j + 1 ≤ i + m ∧ M' = M.set b (.row true 1 (pre ++ ints .u32 ys ++ post)) ∧ ∀ q, a < q → q < i → ys.getD q 0 < xs.getD p 0)
   (fun g M' => ∃ i : Nat, g 10 = .int .i64 i ∧ i0 ≤ i ∧ i ≤ j + 1 ∧ M' = M.set b (.row true 1 (pre ++ ints .u32 ys ++ post)) ∧ (∀ q, a < q → q < i → ys.getD q 0 < xs.getD p 0) ∧ (i ≤ j → xs.getD p 0 ≤ ys.getD i 0)) (e + 1) ?_ ?_ ?_
  ·exact ⟨i0, rfl, by omega, hij0, by omega, rfl, hlo⟩
  ·clear hij0 hlo
   rintro m1 g1 M2 ⟨i, h9, hi1, hij, hm1, rfl, hlo⟩
   simp (disch := omega) only [push_cast, ↓reduceIte, reduceCtorEq, Nat.reduceAdd, Nat.reduceMul, Nat.reduceLeDiff, Nat.reduceLT, Nat.reduceSub, Int.reduceNe, Int.reduceEq, Int.reduceLE, Int.reduceLT, Int.reduceToNat, h9]
   by_cases hle : i ≤ j
   ·have hd : decide ((i : Int) ≤ j) = true := decide_eq_true (by omega)
    have l1 := hR.ld (i := i) (by omega)
    (repeat (first | refine st ?_ | refine σa ?_ | refine d116_SoL ?_ | ((first | refine σb ?_ | refine σc ?_); simp (disch := omega) only [push_cast, ↓reduceIte, reduceCtorEq, ν1, ν2, ν3, ν4, ν5, ζ1, ζ2, ζ3, ζ4, ζ5, hd, la, l1, hlen, w_i64, Int.toNat_natCast])))
    (refine (less_spec _ _ _).mono ?_; rintro r M3 ⟨rfl, rfl⟩; try refine ⟨Fr.refl _, ?_⟩)
    (repeat (first | refine st ?_ | refine σa ?_ | refine d116_SoL ?_ | ((first | refine σb ?_ | refine σc ?_); simp (disch := omega) only [push_cast, ↓reduceIte, reduceCtorEq, ν1, ν2, ν3, ν4, ν5, ζ1, ζ2, ζ3, ζ4, ζ5, hd])))
    ((first | refine AL.gu rfl (fun hc => ?_) (fun hc => ?_) | refine AW.condS rfl rfl (fun hc => ?_) (fun hc => ?_)) <;> (try (have hc' := hc; simp only [Bool.not_eq_true', Bool.not_eq_false', Bool.not_true, Bool.not_false, decide_eq_true_eq, decide_eq_false_iff_not, Classical.not_not, Int.not_lt, Int.not_le, gt_iff_lt, ge_iff_le, beq_iff_eq] at hc')))
    ·(repeat (first | refine st ?_ | refine σa ?_ | refine d116_SoL ?_ | ((first | refine σb ?_ | refine σc ?_); simp (disch := omega) only [push_cast, ↓reduceIte, reduceCtorEq, ν1, ν2, ν3, ν4, ν5, ζ1, ζ2, ζ3, ζ4, ζ5, w_i64])))
     refine ⟨rfl, m1 - 1, by omega, i + 1, rfl, by omega, by omega, by omega, rfl, fun q h1 h2 => ?_⟩
     by_cases hq : q = i
     ·rw [hq]; exact hc'
     ·exact hlo q h1 (by omega)
    ·(repeat (first | refine st ?_ | refine σa ?_ | refine d116_SoL ?_ | ((first | refine σb ?_ | refine σc ?_); simp (disch := omega) only [push_cast, ↓reduceIte, reduceCtorEq, ν1, ν2, ν3, ν4, ν5, ζ1, ζ2, ζ3, ζ4, ζ5])))
     exact ⟨rfl, i, rfl, hi1, hij, rfl, hlo, fun _ => hc'⟩
   ·have hd : decide ((i : Int) ≤ j) = false := decide_eq_false (by omega)
    (repeat (first | refine st ?_ | refine σa ?_ | refine d116_SoL ?_ | ((first | refine σb ?_ | refine σc ?_); simp (disch := omega) only [push_cast, ↓reduceIte, reduceCtorEq, ν1, ν2, ν3, ν4, ν5, ζ1, ζ2, ζ3, ζ4, ζ5, hd])))
    exact ⟨rfl, i, rfl, hi1, hij, rfl, hlo, fun h => absurd h hle⟩
  clear hlo
  rintro g1 M2 ⟨i, h9, hi1, hij, rfl, hlo, hex⟩
  simp (disch := omega) only [push_cast, ↓reduceIte, reduceCtorEq, Nat.reduceAdd, Nat.reduceMul, Nat.reduceLeDiff, Nat.reduceLT, Nat.reduceSub, Int.reduceNe, Int.reduceEq, Int.reduceLE, Int.reduceLT, Int.reduceToNat, h9]
  (repeat (first | refine st ?_ | refine σa ?_ | refine d116_SoL ?_ | ((first | refine σb ?_ | refine σc ?_); simp (disch := omega) only [push_cast, ↓reduceIte, reduceCtorEq, ν1, ν2, ν3, ν4, ν5, ζ1, ζ2, ζ3, ζ4, ζ5])))
  clear h10
  refine AW.loopX 8 [11, 115, 116, 117, 118, 119, 120, 121, 122, 123, 124, 125, 126, 127, 128, 129, 130, 131] (fun m' g M' => ∃ j' : Nat, g 11 = .int .i64 j' ∧ j' ≤ j ∧ i ≤ j' + 1 ∧ j' ≤ m' ∧ M' = M.set b (.row true 1 (pre ++ ints .u32 ys ++ post)) ∧ ∀ q, j' < q → q < e → xs.getD p 0 ≤ ys.getD q 0)
   (fun g M' => ∃ j' : Nat, g 11 = .int .i64 j' ∧ j' ≤ j ∧ i ≤ j' + 1 ∧ M' = M.set b (.row true 1 (pre ++ ints .u32 ys ++ post)) ∧ (∀ q, j' < q → q < e → xs.getD p 0 ≤ ys.getD q 0) ∧ (i ≤ j' → ys.getD j' 0 < xs.getD p 0)) j ?_ ?_ ?_
  ·exact ⟨j, rfl, by omega, hij, by omega, rfl, hup⟩
  ·clear hup
   rintro m1 g1 M2 ⟨k, h10, hk1, hk2, hk3, rfl, hup⟩
   simp (disch := omega) only [push_cast, ↓reduceIte, reduceCtorEq, Nat.reduceAdd, Nat.reduceMul, Nat.reduceLeDiff, Nat.reduceLT, Nat.reduceSub, Int.reduceNe, Int.reduceEq, Int.reduceLE, Int.reduceLT, Int.reduceToNat, h10]
   by_cases hle : i ≤ k
   ·have hd : decide ((i : Int) ≤ k) = true := decide_eq_true (by omega)
    have l1 := hR.ld (i := k) (by omega)
    (repeat (first | refine st ?_ | refine σa ?_ | refine d116_SoL ?_ | ((first | refine σb ?_ | refine σc ?_); simp (disch := omega) only [push_cast, ↓reduceIte, reduceCtorEq, ν1, ν2, ν3, ν4, ν5, ζ1, ζ2, ζ3, ζ4, ζ5, hd, la, l1, hlen, w_i64, Int.toNat_natCast])))
    (refine (less_spec _ _ _).mono ?_; rintro r M3 ⟨rfl, rfl⟩; try refine ⟨Fr.refl _, ?_⟩)
    (repeat (first | refine st ?_ | refine σa ?_ | refine d116_SoL ?_ | ((first | refine σb ?_ | refine σc ?_); simp (disch := omega) only [push_cast, ↓reduceIte, reduceCtorEq, ν1, ν2, ν3, ν4, ν5, ζ1, ζ2, ζ3, ζ4, ζ5, hd])))
    ((first | refine AL.gu rfl (fun hc => ?_) (fun hc => ?_) | refine AW.condS rfl rfl (fun hc => ?_) (fun hc => ?_)) <;> (try (have hc' := hc; simp only [Bool.not_eq_true', Bool.not_eq_false', Bool.not_true, Bool.not_false, decide_eq_true_eq, decide_eq_false_iff_not, Classical.not_not, Int.not_lt, Int.not_le, gt_iff_lt, ge_iff_le, beq_iff_eq] at hc')))
    ·(repeat (first | refine st ?_ | refine σa ?_ | refine d116_SoL ?_ | ((first | refine σb ?_ | refine σc ?_); simp (disch := omega) only [push_cast, ↓reduceIte, reduceCtorEq, ν1, ν2, ν3, ν4, ν5, ζ1, ζ2, ζ3, ζ4, ζ5, w_i64])))
     refine ⟨rfl, m1 - 1, by omega, k - 1, congrArg (Value.int .i64) (by omega), by omega, by omega, by omega, rfl, fun q h1 h2 => ?_⟩
     by_cases hq : q = k
     ·rw [hq]; exact hc'
     ·exact hup q (by omega) h2
    ·(repeat (first | refine st ?_ | refine σa ?_ | refine d116_SoL ?_ | ((first | refine σb ?_ | refine σc ?_); simp (disch := omega) only [push_cast, ↓reduceIte, reduceCtorEq, ν1, ν2, ν3, ν4, ν5, ζ1, ζ2, ζ3, ζ4, ζ5])))
     exact ⟨rfl, k, rfl, hk1, hk2, rfl, hup, fun _ => hc'⟩
   ·have hd : decide ((i : Int) ≤ k) = false := decide_eq_false (by omega)
    (repeat (first | refine st ?_ | refine σa ?_ | refine d116_SoL ?_ | ((first | refine σb ?_ | refine σc ?_); simp (disch := omega) only [push_cast, ↓reduceIte, reduceCtorEq, ν1, ν2, ν3, ν4, ν5, ζ1, ζ2, ζ3, ζ4, ζ5, hd])))
    exact ⟨rfl, k, rfl, hk1, hk2, rfl, hup, fun h => absurd h hle⟩
  clear hup
  rintro g2 M2 ⟨k, h10, hk1, hk2, rfl, hup, hex2⟩
  simp (disch := omega) only [push_cast, ↓reduceIte, reduceCtorEq, Nat.reduceAdd, Nat.reduceMul, Nat.reduceLeDiff, Nat.reduceLT, Nat.reduceSub, Int.reduceNe, Int.reduceEq, Int.reduceLE, Int.reduceLT, Int.reduceToNat, h10]
  (repeat (first | refine st ?_ | refine σa ?_ | refine d116_SoL ?_ | ((first | refine σb ?_ | refine σc ?_); simp (disch := omega) only [push_cast, ↓reduceIte, reduceCtorEq, ν1, ν2, ν3, ν4, ν5, ζ1, ζ2, ζ3, ζ4, ζ5])))
  ((first | refine AL.gu rfl (fun hgt => ?_) (fun hgt => ?_) | refine AW.condS rfl rfl (fun hgt => ?_) (fun hgt => ?_)) <;> (try (have hgt' := hgt; simp only [Bool.not_eq_true', Bool.not_eq_false', Bool.not_true, Bool.not_false, decide_eq_true_eq, decide_eq_false_iff_not, Classical.not_not, Int.not_lt, Int.not_le, gt_iff_lt, ge_iff_le, beq_iff_eq] at hgt')))
  ·obtain rfl : i = k + 1 := by omega
   have l1 := hR.ld (i := k) (by omega)
   have hR1 := h.put (ys := ys.set k (xs.getD p 0)) (by simp; omega)
   (repeat (first | refine st ?_ | refine σa ?_ | refine d116_SoL ?_ | ((first | refine σb ?_ | refine σc ?_); simp (disch := omega) only [push_cast, ↓reduceIte, reduceCtorEq, ν1, ν2, ν3, ν4, ν5, ζ1, ζ2, ζ3, ζ4, ζ5, la, l1, hlen, w_i64, Int.toNat_natCast, hR.get, hR1.get, hR.room, hR1.room, hR.spl, hR1.spl, Option.some.injEq, exists_eq_left', List.set_set, List.length_set, Blk.put, Blk.ours, Blk.cells])))
   ((first | refine retA.ret (by rfl) ?_ | refine retA.normal (by rfl) ?_); simp (disch := omega) only [push_cast, ↓reduceIte, reduceCtorEq, Nat.reduceAdd, Nat.reduceMul, Nat.reduceLeDiff, Nat.reduceLT, Nat.reduceSub, Int.reduceNe, Int.reduceEq, Int.reduceLE, Int.reduceLT, Int.reduceToNat])
   rw [← hd0] at hlo hup ⊢
   exact ⟨k, false, rfl, swap ys k a, rfl, hP0.trans (PermOn.swap (by omega) (by omega) (by omega) (by omega) (by omega)), PartAt.of (by omega) (by omega) (by omega) hlo hup⟩
  ·have hle : i ≤ k := by omega
   have x1 := hex (by omega)
   have x2 := hex2 hle
   have hne : i ≠ k := fun e => by rw [e] at x1; omega
   have l1 := hR.ld (i := k) (by omega)
   have l2 := hR.ld (i := i) (by omega)
   have hR1 := h.put (ys := ys.set i (ys.getD k 0)) (by simp; omega)
   (repeat (first | refine st ?_ | refine σa ?_ | refine d116_SoL ?_ | ((first | refine σb ?_ | refine σc ?_); simp (disch := omega) only [push_cast, ↓reduceIte, reduceCtorEq, ν1, ν2, ν3, ν4, ν5, ζ1, ζ2, ζ3, ζ4, ζ5, l1, l2, hlen, w_i64, Int.toNat_natCast, hR.get, hR1.get, hR.room, hR1.room, hR.spl, hR1.spl, Option.some.injEq, exists_eq_left', List.set_set, List.length_set, Blk.put, Blk.ours, Blk.cells])))
   have s0 : (swap ys i k).getD a 0 = xs.getD p 0 := by rw [swap_get (by omega) (by omega) (by omega), if_neg (by omega), if_neg (by omega)]; exact hd0
   have slo : ∀ q, a < q → q < i + 1 → (swap ys i k).getD q 0 < xs.getD p 0 := fun q h1 h2 => by
    rw [swap_get (by omega) (by omega) (by omega), if_neg (by omega)]
    by_cases hq : q = i
    ·rw [if_pos hq]; exact x2
    ·rw [if_neg hq]; exact hlo q h1 (by omega)
   have sup : ∀ q, k - 1 < q → q < e → xs.getD p 0 ≤ (swap ys i k).getD q 0 := fun q h1 h2 => by
    rw [swap_get (by omega) (by omega) (by omega)]
    by_cases hq : q = k
    ·rw [if_pos hq]; exact x1
    ·rw [if_neg hq, if_neg (by omega)]; exact hup q (by omega) h2
   have hPs := hP0.trans (PermOn.swap (lo := a) (hi := e) (i := i) (j := k) (xs := ys) (by omega) (by omega) (by omega) (by omega) (by omega))
   exact ⟨rfl, m - 2, by omega, i + 1, rfl, k - 1, congrArg (Value.int .i64) (by omega), by omega, by omega, by omega, by omega, swap ys i k, rfl, hPs, s0, slo, sup⟩
end Go.Proofs.Ytbdejnnbpdgjlaa.Ax
