/- Contracts of functions over the abstract machine. No conditions: lemmas alone. -/
import Derived.Test.YtbdejnnbpdgjlaaPeerXLibD
import Derived.Test.YtbdejnnbpdgjlaaPeerXP0
import Derived.Test.YtbdejnnbpdgjlaaPeerXP1
import Derived.Test.YtbdejnnbpdgjlaaPeerXP4
import Derived.Test.YtbdejnnbpdgjlaaPeerXP2
namespace Go.Proofs.Ytbdejnnbpdgjlaa.Ax
open Go Go.RowKit
open Nat renaming reduceAdd → ν1, reduceMul → ν2, reduceLeDiff → ν3, reduceLT → ν4, reduceSub → ν5
open Int renaming reduceNe → ζ1, reduceEq → ζ2, reduceLE → ζ3, reduceLT → ζ4, reduceToNat → ζ5
set_option linter.unusedVariables false
set_option linter.unusedSimpArgs false
set_option maxRecDepth 100000
set_option maxHeartbeats 20000000
attribute [local irreducible] thenA blockA scopeA retA AL AW AD ADL AH clrK CallA apure aload bload appK ptrK fnK ares szOk planOk okOps
theorem rev_spec {M : Mem} {b off n c : Nat} {pre post : List Value} {xs : List Int} (h : Rw M b off n c pre post xs) (a e : Nat) (ha : a ≤ e) (he : e ≤ n) (hn : n ≤ 1000000000) :
  CallA Try.prog 112 [.slice (some ⟨b, off, none⟩) n c, .int .i64 a, .int .i64 e] M fun v M' => ∃ ys, M' = M.set b (.row true 1 (pre ++ ints .u32 ys ++ post)) ∧ PermOn a e xs ys := by
 have hlen := h.len
 (refine CallA.of_body Try.func112 rfl (by rfl) ?_; simp only [Try.ntmps112, List.length_cons, List.length_nil, List.replicate, List.cons_append, List.nil_append, Nat.reduceSub, Nat.reduceAdd])
 (repeat (first | refine st ?_ | refine σa ?_ | (refine σb ?_; simp (disch := omega) only [push_cast, ↓reduceIte, reduceCtorEq, ν1, ν2, ν3, ν4, ν5, ζ1, ζ2, ζ3, ζ4, ζ5, w_i64])))
 refine AW.loopF [6, 7, 11, 12, 13, 14, 15, 16, 17, 18, 19, 20, 21, 22, 23, 24, 25, 26, 27, 28, 29, 30, 31] (fun m f M' => ∃ (i : Nat) (j : Int) (ys : List Int), f 6 = .int .i64 i ∧ f 7 = .int .i64 j ∧ a ≤ i ∧ -1 ≤ j ∧ j < e ∧ i ≤ e ∧ j + 1 - i ≤ m ∧ M' = M.set b (.row true 1 (pre ++ ints .u32 ys ++ post)) ∧ PermOn a e xs ys) (e - a) ?_ ?_
 ·exact ⟨a, (e : Int) - 1, xs, rfl, rfl, by omega, by omega, by omega, by omega, by omega, h.same.symm, PermOn.refl _ _ _⟩
 rintro m f M1 ⟨i, j, ys, h6, h7, hi1, hj1, hj2, hie, hm, rfl, hP⟩
 have hyl := hP.len
 have hR := h.put (ys := ys) (by omega)
 simp (disch := omega) only [push_cast, ↓reduceIte, reduceCtorEq, Nat.reduceAdd, Nat.reduceMul, Nat.reduceLeDiff, Nat.reduceLT, Nat.reduceSub, Int.reduceNe, Int.reduceEq, Int.reduceLE, Int.reduceLT, Int.reduceToNat, h6, h7]
 (repeat (first | refine st ?_ | refine σa ?_ | (refine σb ?_; simp (disch := omega) only [push_cast, ↓reduceIte, reduceCtorEq, ν1, ν2, ν3, ν4, ν5, ζ1, ζ2, ζ3, ζ4, ζ5, w_i64])))
 ((first | refine AL.gu rfl (fun hlt => ?_) (fun hlt => ?_) | refine AW.condS rfl rfl (fun hlt => ?_) (fun hlt => ?_)) <;> (try (have hlt' := hlt; simp only [Bool.not_eq_true', Bool.not_eq_false', Bool.not_true, Bool.not_false, decide_eq_true_eq, decide_eq_false_iff_not, Classical.not_not, Int.not_lt, Int.not_le, gt_iff_lt, ge_iff_le, beq_iff_eq] at hlt')))
 ·obtain ⟨q, rfl⟩ : ∃ q : Nat, j = q := ⟨j.toNat, by omega⟩
  have hl1 := hR.ld (i := i) (by omega)
  have hl2 := hR.ld (i := q) (by omega)
  have hR1 := h.put (ys := ys.set i (ys.getD q 0)) (by simp; omega)
  (repeat (first | refine st ?_ | refine σa ?_ | (refine σb ?_; simp (disch := omega) only [push_cast, ↓reduceIte, reduceCtorEq, ν1, ν2, ν3, ν4, ν5, ζ1, ζ2, ζ3, ζ4, ζ5, w_i64])))
  refine AW.dr (by rfl) [0, 1, 2, 3, 4, 5, 6, 7, 8, 9, 10, 11, 12, 13, 14, 15] (by kernel_rfl) (by kernel_rfl) ?_
  (repeat (first | refine st ?_ | refine σa ?_ | ((first | refine σd ?_ | refine σc ?_); simp (disch := omega) only [push_cast, ↓reduceIte, reduceCtorEq, ν1, ν2, ν3, ν4, ν5, ζ1, ζ2, ζ3, ζ4, ζ5, hl1, hl2, hlen, w_i64, Int.toNat_natCast, hR.get, hR1.get, hR.room, hR1.room, hR.spl, hR1.spl, Option.some.injEq, exists_eq_left', List.set_set, List.length_set, Blk.put, Blk.ours, Blk.cells])))
  (repeat (first | refine st ?_ | refine σa ?_ | (refine σb ?_; simp (disch := omega) only [push_cast, ↓reduceIte, reduceCtorEq, ν1, ν2, ν3, ν4, ν5, ζ1, ζ2, ζ3, ζ4, ζ5, w_i64])))
  refine ⟨rfl, m - 1, by omega, i + 1, rfl, (q : Int) - 1, rfl, by omega, by omega, by omega, by omega, by omega, _, rfl, hP.trans (PermOn.swap (by omega) (by omega) (by omega) (by omega) (by omega))⟩
 ·(repeat (first | refine st ?_ | refine σa ?_ | (refine σb ?_; simp (disch := omega) only [push_cast, ↓reduceIte, reduceCtorEq, ν1, ν2, ν3, ν4, ν5, ζ1, ζ2, ζ3, ζ4, ζ5])))
  ((first | refine retA.ret (by rfl) ?_ | refine retA.normal (by rfl) ?_); simp (disch := omega) only [push_cast, ↓reduceIte, reduceCtorEq, Nat.reduceAdd, Nat.reduceMul, Nat.reduceLeDiff, Nat.reduceLT, Nat.reduceSub, Int.reduceNe, Int.reduceEq, Int.reduceLE, Int.reduceLT, Int.reduceToNat])
  exact ⟨ys, rfl, hP⟩
theorem Rw.push {M : Mem} {b off n c : Nat} {pre post : List Value} {xs : List Int} (h : Rw M b off n c pre post xs) (B : Blk) : Rw (M ++ [B]) b off n c pre post xs :=
 ⟨by rw [List.getElem?_append_left h.lt]; exact h.get, h.len, h.off, h.cap, h.pos⟩
theorem Fr.box (M : Mem) (B B' : Blk) : Fr M ((M ++ [B]).set M.length B') [] := ⟨by simp, fun b hb _ => by rw [List.getElem?_set_ne (by omega), List.getElem?_append_left hb]⟩
theorem piv_spec {M : Mem} {b off n c : Nat} {pre post : List Value} {xs : List Int} (h : Rw M b off n c pre post xs) (a l : Nat) (hl : 12 < l) (he : a + l ≤ n) (hn : n ≤ 1000000000) :
  CallA Try.prog 111 [.slice (some ⟨b, off, none⟩) n c, .int .i64 a, .int .i64 (a + l)] M fun v M' => ∃ (p : Nat) (g : Int), v = .tuple ⟨[.int .i64 p, .int .i64 g]⟩ ∧ a ≤ p ∧ p < a + l ∧ 0 ≤ g ∧ g ≤ 2 ∧ Fr M M' [] := by
 have hlt := h.lt
 have e0 : (a : Int) + l - a = l := by omega
 have g1 : decide ((l : Int) ≥ 8) = true := decide_eq_true (by omega)
 have n1 : (a : Int) + l / 4 * 1 = ((a + l / 4 * 1 : Nat) : Int) := by omega
 have n2 : (a : Int) + l / 4 * 2 = ((a + l / 4 * 2 : Nat) : Int) := by omega
 have n3 : (a : Int) + l / 4 * 3 = ((a + l / 4 * 3 : Nat) : Int) := by omega
 have h1 := h.push (.box [.int .i64 0])
 have hs1 := At.push M (.box [.int .i64 0])
 have hne : M.length ≠ b := by omega
 (refine CallA.of_body Try.func111 rfl (by rfl) ?_; simp only [Try.ntmps111, List.length_cons, List.length_nil, List.replicate, List.cons_append, List.nil_append, Nat.reduceSub, Nat.reduceAdd])
 (repeat (first | refine st ?_ | refine σa ?_ | (refine σb ?_; simp (disch := omega) only [push_cast, ↓reduceIte, reduceCtorEq, ν1, ν2, ν3, ν4, ν5, ζ1, ζ2, ζ3, ζ4, ζ5, w_i64, e0, tdiv_in, g1])))
 ((first | refine AL.gu rfl (fun hg => ?_) (fun hg => ?_) | refine AW.condS rfl rfl (fun hg => ?_) (fun hg => ?_)) <;> (try (have hg' := hg; simp only [Bool.not_eq_true', Bool.not_eq_false', Bool.not_true, Bool.not_false, decide_eq_true_eq, decide_eq_false_iff_not, Classical.not_not, Int.not_lt, Int.not_le, gt_iff_lt, ge_iff_le, beq_iff_eq] at hg')))
 ·(repeat (first | refine st ?_ | refine σa ?_ | (refine σb ?_; simp (disch := omega) only [push_cast, ↓reduceIte, reduceCtorEq, ν1, ν2, ν3, ν4, ν5, ζ1, ζ2, ζ3, ζ4, ζ5])))
  rw [n1]
  refine (adj_spec h1 hs1 hne (by omega) hn (a + l / 4 * 1) (by omega) (by omega)).mono ?_
  rintro r M2 ⟨p1, k1, rfl, hp1, rfl, hk1, hk1'⟩
  have h2 := h1.boxSet (x := .box [.int .i64 k1]) hne
  have hs2 := hs1.set (Blk.box [.int .i64 k1])
  (repeat (first | refine st ?_ | refine σa ?_ | (refine σb ?_; simp (disch := omega) only [push_cast, ↓reduceIte, reduceCtorEq, ν1, ν2, ν3, ν4, ν5, ζ1, ζ2, ζ3, ζ4, ζ5])))
  rw [n2]
  refine (adj_spec h2 hs2 hne (by omega) hn (a + l / 4 * 2) (by omega) (by omega)).mono ?_
  rintro r M3 ⟨p2, k2, rfl, hp2, rfl, hk2, hk2'⟩
  have h3 := h2.boxSet (x := .box [.int .i64 k2]) hne
  have hs3 := hs2.set (Blk.box [.int .i64 k2])
  (repeat (first | refine st ?_ | refine σa ?_ | (refine σb ?_; simp (disch := omega) only [push_cast, ↓reduceIte, reduceCtorEq, ν1, ν2, ν3, ν4, ν5, ζ1, ζ2, ζ3, ζ4, ζ5])))
  rw [n3]
  refine (adj_spec h3 hs3 hne (by omega) hn (a + l / 4 * 3) (by omega) (by omega)).mono ?_
  rintro r M4 ⟨p3, k3, rfl, hp3, rfl, hk3, hk3'⟩
  have h4 := h3.boxSet (x := .box [.int .i64 k3]) hne
  have hs4 := hs3.set (Blk.box [.int .i64 k3])
  (repeat (first | refine st ?_ | refine σa ?_ | (refine σb ?_; simp (disch := omega) only [push_cast, ↓reduceIte, reduceCtorEq, ν1, ν2, ν3, ν4, ν5, ζ1, ζ2, ζ3, ζ4, ζ5])))
  refine (med_spec h4 hs4 hne (by omega) p1 p2 p3 (by omega) (by omega) (by omega)).mono ?_
  rintro r M2 ⟨p, k, rfl, hp, rfl, hk, hk'⟩
  simp only [List.set_set]
  have hF : Fr M ((M ++ [Blk.box [.int .i64 0]]).set M.length (Blk.box [.int .i64 k])) [] := Fr.box M _ _
  have hs9 := hs1.set (Blk.box [.int .i64 k])
  have hb := box_ld hs9
  (repeat (first | refine st ?_ | refine σa ?_ | (refine σb ?_; simp (disch := omega) only [push_cast, ↓reduceIte, reduceCtorEq, ν1, ν2, ν3, ν4, ν5, ζ1, ζ2, ζ3, ζ4, ζ5, hb, List.set_set])))
  ((first | refine AL.gu rfl (fun hz => ?_) (fun hz => ?_) | refine AW.condS rfl rfl (fun hz => ?_) (fun hz => ?_)) <;> (try (have hz' := hz; simp only [Bool.not_eq_true', Bool.not_eq_false', Bool.not_true, Bool.not_false, decide_eq_true_eq, decide_eq_false_iff_not, Classical.not_not, Int.not_lt, Int.not_le, gt_iff_lt, ge_iff_le, beq_iff_eq] at hz')))
  ·(repeat (first | refine st ?_ | refine σa ?_ | (refine σb ?_; simp (disch := omega) only [push_cast, ↓reduceIte, reduceCtorEq, ν1, ν2, ν3, ν4, ν5, ζ1, ζ2, ζ3, ζ4, ζ5])))
   ((first | refine retA.ret (by rfl) ?_ | refine retA.normal (by rfl) ?_); simp (disch := omega) only [push_cast, ↓reduceIte, reduceCtorEq, Nat.reduceAdd, Nat.reduceMul, Nat.reduceLeDiff, Nat.reduceLT, Nat.reduceSub, Int.reduceNe, Int.reduceEq, Int.reduceLE, Int.reduceLT, Int.reduceToNat])
   exact ⟨p, 1, rfl, by omega, by omega, by omega, by omega, hF⟩
  ·(repeat (first | refine st ?_ | refine σa ?_ | (refine σb ?_; simp (disch := omega) only [push_cast, ↓reduceIte, reduceCtorEq, ν1, ν2, ν3, ν4, ν5, ζ1, ζ2, ζ3, ζ4, ζ5])))
   ((first | refine AL.gu rfl (fun hy => ?_) (fun hy => ?_) | refine AW.condS rfl rfl (fun hy => ?_) (fun hy => ?_)) <;> (try (have hy' := hy; simp only [Bool.not_eq_true', Bool.not_eq_false', Bool.not_true, Bool.not_false, decide_eq_true_eq, decide_eq_false_iff_not, Classical.not_not, Int.not_lt, Int.not_le, gt_iff_lt, ge_iff_le, beq_iff_eq] at hy')))
   ·(repeat (first | refine st ?_ | refine σa ?_ | (refine σb ?_; simp (disch := omega) only [push_cast, ↓reduceIte, reduceCtorEq, ν1, ν2, ν3, ν4, ν5, ζ1, ζ2, ζ3, ζ4, ζ5])))
    ((first | refine retA.ret (by rfl) ?_ | refine retA.normal (by rfl) ?_); simp (disch := omega) only [push_cast, ↓reduceIte, reduceCtorEq, Nat.reduceAdd, Nat.reduceMul, Nat.reduceLeDiff, Nat.reduceLT, Nat.reduceSub, Int.reduceNe, Int.reduceEq, Int.reduceLE, Int.reduceLT, Int.reduceToNat])
    exact ⟨p, 2, rfl, by omega, by omega, by omega, by omega, hF⟩
   ·(repeat (first | refine st ?_ | refine σa ?_ | (refine σb ?_; simp (disch := omega) only [push_cast, ↓reduceIte, reduceCtorEq, ν1, ν2, ν3, ν4, ν5, ζ1, ζ2, ζ3, ζ4, ζ5])))
    ((first | refine retA.ret (by rfl) ?_ | refine retA.normal (by rfl) ?_); simp (disch := omega) only [push_cast, ↓reduceIte, reduceCtorEq, Nat.reduceAdd, Nat.reduceMul, Nat.reduceLeDiff, Nat.reduceLT, Nat.reduceSub, Int.reduceNe, Int.reduceEq, Int.reduceLE, Int.reduceLT, Int.reduceToNat])
    exact ⟨p, 0, rfl, by omega, by omega, by omega, by omega, hF⟩
 ·(repeat (first | refine st ?_ | refine σa ?_ | (refine σb ?_; simp (disch := omega) only [push_cast, ↓reduceIte, reduceCtorEq, ν1, ν2, ν3, ν4, ν5, ζ1, ζ2, ζ3, ζ4, ζ5])))
  rw [n1, n2, n3]
  refine (med_spec h1 hs1 hne (by omega) (a + l / 4 * 1) (a + l / 4 * 2) (a + l / 4 * 3) (by omega) (by omega) (by omega)).mono ?_
  rintro r M2 ⟨p, k, rfl, hp, rfl, hk, hk'⟩
  have hF : Fr M ((M ++ [Blk.box [.int .i64 0]]).set M.length (Blk.box [.int .i64 k])) [] := Fr.box M _ _
  have hs9 := hs1.set (Blk.box [.int .i64 k])
  have hb := box_ld hs9
  (repeat (first | refine st ?_ | refine σa ?_ | (refine σb ?_; simp (disch := omega) only [push_cast, ↓reduceIte, reduceCtorEq, ν1, ν2, ν3, ν4, ν5, ζ1, ζ2, ζ3, ζ4, ζ5, hb, List.set_set])))
  ((first | refine AL.gu rfl (fun hz => ?_) (fun hz => ?_) | refine AW.condS rfl rfl (fun hz => ?_) (fun hz => ?_)) <;> (try (have hz' := hz; simp only [Bool.not_eq_true', Bool.not_eq_false', Bool.not_true, Bool.not_false, decide_eq_true_eq, decide_eq_false_iff_not, Classical.not_not, Int.not_lt, Int.not_le, gt_iff_lt, ge_iff_le, beq_iff_eq] at hz')))
  ·(repeat (first | refine st ?_ | refine σa ?_ | (refine σb ?_; simp (disch := omega) only [push_cast, ↓reduceIte, reduceCtorEq, ν1, ν2, ν3, ν4, ν5, ζ1, ζ2, ζ3, ζ4, ζ5])))
   ((first | refine retA.ret (by rfl) ?_ | refine retA.normal (by rfl) ?_); simp (disch := omega) only [push_cast, ↓reduceIte, reduceCtorEq, Nat.reduceAdd, Nat.reduceMul, Nat.reduceLeDiff, Nat.reduceLT, Nat.reduceSub, Int.reduceNe, Int.reduceEq, Int.reduceLE, Int.reduceLT, Int.reduceToNat])
   exact ⟨p, 1, rfl, by omega, by omega, by omega, by omega, hF⟩
  ·(repeat (first | refine st ?_ | refine σa ?_ | (refine σb ?_; simp (disch := omega) only [push_cast, ↓reduceIte, reduceCtorEq, ν1, ν2, ν3, ν4, ν5, ζ1, ζ2, ζ3, ζ4, ζ5])))
   ((first | refine AL.gu rfl (fun hy => ?_) (fun hy => ?_) | refine AW.condS rfl rfl (fun hy => ?_) (fun hy => ?_)) <;> (try (have hy' := hy; simp only [Bool.not_eq_true', Bool.not_eq_false', Bool.not_true, Bool.not_false, decide_eq_true_eq, decide_eq_false_iff_not, Classical.not_not, Int.not_lt, Int.not_le, gt_iff_lt, ge_iff_le, beq_iff_eq] at hy')))
   ·(repeat (first | refine st ?_ | refine σa ?_ | (refine σb ?_; simp (disch := omega) only [push_cast, ↓reduceIte, reduceCtorEq, ν1, ν2, ν3, ν4, ν5, ζ1, ζ2, ζ3, ζ4, ζ5])))
    ((first | refine retA.ret (by rfl) ?_ | refine retA.normal (by rfl) ?_); simp (disch := omega) only [push_cast, ↓reduceIte, reduceCtorEq, Nat.reduceAdd, Nat.reduceMul, Nat.reduceLeDiff, Nat.reduceLT, Nat.reduceSub, Int.reduceNe, Int.reduceEq, Int.reduceLE, Int.reduceLT, Int.reduceToNat])
    exact ⟨p, 2, rfl, by omega, by omega, by omega, by omega, hF⟩
   ·(repeat (first | refine st ?_ | refine σa ?_ | (refine σb ?_; simp (disch := omega) only [push_cast, ↓reduceIte, reduceCtorEq, ν1, ν2, ν3, ν4, ν5, ζ1, ζ2, ζ3, ζ4, ζ5])))
    ((first | refine retA.ret (by rfl) ?_ | refine retA.normal (by rfl) ?_); simp (disch := omega) only [push_cast, ↓reduceIte, reduceCtorEq, Nat.reduceAdd, Nat.reduceMul, Nat.reduceLeDiff, Nat.reduceLT, Nat.reduceSub, Int.reduceNe, Int.reduceEq, Int.reduceLE, Int.reduceLT, Int.reduceToNat])
    exact ⟨p, 0, rfl, by omega, by omega, by omega, by omega, hF⟩
theorem d110_SoJ {g n : Prop} (k : n) (h : n → g := by first | exact AW.dr (id := 10) (by rfl) [0, 1, 2, 3, 4, 5, 6, 7, 8, 9, 10, 11, 12, 13, 14, 15, 16, 17, 18, 19] (by kernel_rfl) (by kernel_rfl)) : g := h k
theorem and_low (x : Int) (m : Nat) (h1 : 1 ≤ m) (h2 : m ≤ 4294967296) : ∃ o : Nat, IntKind.i64.wrap (IntKind.u64.wrap ((BitVec.ofInt IntKind.u64.bits x &&& BitVec.ofInt IntKind.u64.bits ((m : Int) - 1)).toNat : Int)) = (o : Int) ∧ o < m := by
 have e : (BitVec.ofInt IntKind.u64.bits ((m : Int) - 1)).toNat = m - 1 := by
  rw [show ((m : Int) - 1) = ((m - 1 : Nat) : Int) by omega, BitVec.ofInt_natCast, BitVec.toNat_ofNat]
  exact Nat.mod_eq_of_lt (by show m - 1 < 2 ^ 64; omega)
 have hle : (BitVec.ofInt IntKind.u64.bits x &&& BitVec.ofInt IntKind.u64.bits ((m : Int) - 1)).toNat ≤ m - 1 := by
  rw [BitVec.toNat_and, e]; exact Nat.and_le_right
 refine ⟨_, ?_, Nat.lt_of_le_of_lt hle (by omega)⟩
 rw [w_u64 (by omega) (by omega), w_i64 (by omega) (by omega)]
theorem brk_spec {M : Mem} {b off n c : Nat} {pre post : List Value} {xs : List Int} (h : Rw M b off n c pre post xs) (a l : Nat) (hl : 12 < l) (he : a + l ≤ n) (hn : n ≤ 1000000000) :
  CallA Try.prog 110 [.slice (some ⟨b, off, none⟩) n c, .int .i64 a, .int .i64 (a + l)] M fun v M' => ∃ ys, Rw M' b off n c pre post ys ∧ Fr M M' [b] ∧ PermOn a (a + l) xs ys := by
 have hlt := h.lt
 have hlen := h.len
 have e0 : (a : Int) + l - a = l := by omega
 have g1 : decide ((l : Int) ≥ 8) = true := decide_eq_true (by omega)
 obtain ⟨q, hq, hq0⟩ : ∃ q : Nat, (l : Int) / 4 = q ∧ q = l / 4 := ⟨l / 4, by omega, rfl⟩
 have h1 : ∀ B, Rw (M ++ [B]) b off n c pre post xs := fun B => h.push B
 have hls : ∀ B, (M ++ [B])[M.length]? = some B := fun B => (At.push M B).get
 have sp1 : ∀ a b : Value, spl [a] 0 [b] = [b] := fun _ _ => rfl
 (refine CallA.of_body Try.func110 rfl (by rfl) ?_; simp only [Try.ntmps110, List.length_cons, List.length_nil, List.replicate, List.cons_append, List.nil_append, Nat.reduceSub, Nat.reduceAdd])
 (repeat (first | refine st ?_ | refine σa ?_ | refine d110_SoJ ?_ | ((first | refine σb ?_ | refine σc ?_); simp (disch := omega) only [push_cast, ↓reduceIte, reduceCtorEq, ν1, ν2, ν3, ν4, ν5, ζ1, ζ2, ζ3, ζ4, ζ5, w_i64, e0, tdiv_in, g1, hq, hls, sp1, Option.some.injEq, exists_eq_left', Blk.put, Blk.ours, Blk.cells])))
 refine (pow_spec l _ (by omega) (by omega)).mono ?_
 rintro r M1 ⟨mm, rfl, hm1, hm2, rfl⟩
 (repeat (first | refine st ?_ | refine σa ?_ | refine d110_SoJ ?_ | ((first | refine σb ?_ | refine σc ?_); simp (disch := omega) only [push_cast, ↓reduceIte, reduceCtorEq, ν1, ν2, ν3, ν4, ν5, ζ1, ζ2, ζ3, ζ4, ζ5, w_i64, tdiv_in, hq])))
 have hx0 := (h1 (.box [.int .u64 0])).boxSet (s := M.length) (x := .box [.int .u64 (IntKind.u64.wrap l)]) (by omega)
 have hs0 := (At.push M (.box [.int .u64 0])).set (Blk.box [.int .u64 (IntKind.u64.wrap l)])
 have hf0 : Fr M ((M ++ [Blk.box [.int .u64 0]]).set M.length (.box [.int .u64 (IntKind.u64.wrap l)])) [] := Fr.box M _ _
 clear h1 hls sp1 g1 e0
 generalize hs : M.length = s at *
 generalize (M ++ [Blk.box [.int .u64 0]]).set s (.box [.int .u64 (IntKind.u64.wrap l)]) = M1 at *
 have hsb : s ≠ b := by omega
 have e1 : (a : Int) + (q : Int) * 2 - 1 = ((a + q * 2 - 1 : Nat) : Int) := by omega
 rw [e1]
 generalize hi0 : a + q * 2 - 1 = i0
 have hi0' : i0 + 1 = a + q * 2 := by omega
 have hb2 : a + q * 2 + 1 < a + l := by omega
 clear hi0 e1
 refine AW.loopF [9, 10, 26, 27, 28, 29, 30, 31, 32, 33, 34, 35, 36, 37, 38, 39, 40, 41, 42, 43, 44, 45, 46, 47, 48, 49, 50, 51, 52, 53, 54, 55, 56, 57, 58, 59, 60, 61, 62, 63, 64] (fun m g M' => ∃ i : Nat, g 9 = .int .i64 i ∧ i0 ≤ i ∧ i ≤ i0 + 3 ∧ i + m = i0 + 3 ∧ ∃ k, At M' s (.box [.int .u64 k]) ∧ ∃ ys, Rw M' b off n c pre post ys ∧ Fr M M' [b] ∧ PermOn a (a + l) xs ys) 3 ?_ ?_
 ·exact ⟨i0, rfl, by omega, by omega, by omega, _, hs0, xs, hx0, hf0.cut (by simp), PermOn.refl _ _ _⟩
 clear hs0 hx0 hf0
 rintro m g M2 ⟨i, h9, hi1, hi2, hm, k, hsk, ys, hR, hF, hP⟩
 have hyl := hP.len
 simp (disch := omega) only [push_cast, ↓reduceIte, reduceCtorEq, Nat.reduceAdd, Nat.reduceMul, Nat.reduceLeDiff, Nat.reduceLT, Nat.reduceSub, Int.reduceNe, Int.reduceEq, Int.reduceLE, Int.reduceLT, Int.reduceToNat, h9]
 (repeat (first | refine st ?_ | refine σa ?_ | refine d110_SoJ ?_ | ((first | refine σb ?_ | refine σc ?_); simp (disch := omega) only [push_cast, ↓reduceIte, reduceCtorEq, ν1, ν2, ν3, ν4, ν5, ζ1, ζ2, ζ3, ζ4, ζ5, w_i64, tdiv_in, hq])))
 ((first | refine AL.gu rfl (fun hg => ?_) (fun hg => ?_) | refine AW.condS rfl rfl (fun hg => ?_) (fun hg => ?_)) <;> (try (have hg' := hg; simp only [Bool.not_eq_true', Bool.not_eq_false', Bool.not_true, Bool.not_false, decide_eq_true_eq, decide_eq_false_iff_not, Classical.not_not, Int.not_lt, Int.not_le, gt_iff_lt, ge_iff_le, beq_iff_eq] at hg')))
 ·(repeat (first | refine st ?_ | refine σa ?_ | refine d110_SoJ ?_ | ((first | refine σb ?_ | refine σc ?_); simp (disch := omega) only [push_cast, ↓reduceIte, reduceCtorEq, ν1, ν2, ν3, ν4, ν5, ζ1, ζ2, ζ3, ζ4, ζ5])))
  refine (next_spec hsk).mono ?_
  rintro r M3 ⟨k', rfl, rfl⟩
  obtain ⟨o, ho, ho1⟩ := and_low k' mm hm1 (by omega)
  have hR2 := hR.boxSet (s := s) (x := .box [.int .u64 k']) hsb
  have hsk2 := hsk.set (.box [.int .u64 k'])
  have hF2 : Fr M (M2.set s (.box [.int .u64 k'])) [b] := (hF.trans (Fr.set M2 s _)).cut (by intro x hx hlt; simp at hx ⊢; omega)
  generalize M2.set s (.box [.int .u64 k']) = M4 at *
  (repeat (first | refine st ?_ | refine σa ?_ | refine d110_SoJ ?_ | ((first | refine σb ?_ | refine σc ?_); simp (disch := omega) only [push_cast, ↓reduceIte, reduceCtorEq, ν1, ν2, ν3, ν4, ν5, ζ1, ζ2, ζ3, ζ4, ζ5, bits, w_u64])))
  rw [ho]
  refine AW.joinF [10, 44, 45, 46] (fun g M' => M' = M4 ∧ ∃ o : Nat, g 10 = .int .i64 o ∧ o < l) ?_ ?_
  ·((first | refine AL.gu rfl (fun hc => ?_) (fun hc => ?_) | refine AW.condS rfl rfl (fun hc => ?_) (fun hc => ?_)) <;> (try (have hc' := hc; simp only [Bool.not_eq_true', Bool.not_eq_false', Bool.not_true, Bool.not_false, decide_eq_true_eq, decide_eq_false_iff_not, Classical.not_not, Int.not_lt, Int.not_le, gt_iff_lt, ge_iff_le, beq_iff_eq] at hc')))
   ·(repeat (first | refine st ?_ | refine σa ?_ | refine d110_SoJ ?_ | ((first | refine σb ?_ | refine σc ?_); simp (disch := omega) only [push_cast, ↓reduceIte, reduceCtorEq, ν1, ν2, ν3, ν4, ν5, ζ1, ζ2, ζ3, ζ4, ζ5, w_i64])))
    exact ⟨rfl, rfl, o - l, congrArg (Value.int .i64) (by omega), by omega⟩
   ·(repeat (first | refine st ?_ | refine σa ?_ | refine d110_SoJ ?_ | ((first | refine σb ?_ | refine σc ?_); simp (disch := omega) only [push_cast, ↓reduceIte, reduceCtorEq, ν1, ν2, ν3, ν4, ν5, ζ1, ζ2, ζ3, ζ4, ζ5])))
    exact ⟨(over_self _ _).symm, rfl, o, rfl, by omega⟩
  clear ho ho1
  rintro g2 M5 ⟨rfl, o, h10, ho⟩
  have l1 := hR2.ld (i := a + o) (by omega)
  have l2 := hR2.ld (i := i) (by omega)
  have hR3 := hR2.put (ys := ys.set i (ys.getD (a + o) 0)) (by simp)
  have hR4 := hR2.put (ys := swap ys i (a + o)) (swap_length _ _ _)
  simp (disch := omega) only [push_cast, ↓reduceIte, reduceCtorEq, Nat.reduceAdd, Nat.reduceMul, Nat.reduceLeDiff, Nat.reduceLT, Nat.reduceSub, Int.reduceNe, Int.reduceEq, Int.reduceLE, Int.reduceLT, Int.reduceToNat, h10]
  (repeat (first | refine st ?_ | refine σa ?_ | refine d110_SoJ ?_ | ((first | refine σb ?_ | refine σc ?_); simp (disch := omega) only [push_cast, ↓reduceIte, reduceCtorEq, ν1, ν2, ν3, ν4, ν5, ζ1, ζ2, ζ3, ζ4, ζ5, tn_add, l1, l2, hlen, w_i64, Int.toNat_natCast, hR2.get, hR3.get, hR2.room, hR3.room, hR2.spl, hR3.spl, Option.some.injEq, exists_eq_left', List.set_set, List.length_set, Blk.put, Blk.ours, Blk.cells])))
  refine ⟨rfl, m - 1, by omega, i + 1, rfl, by omega, by omega, by omega, k', ?_, swap ys i (a + o), hR4, ?_, hP.trans (PermOn.swap (by omega) (by omega) (by omega) (by omega) (by omega))⟩
  ·exact ⟨by rw [List.getElem?_set_ne (by omega)]; exact hsk2.get⟩
  ·exact (hF2.trans (Fr.set M5 b _)).cut (by intro x hx hlt; simp at hx ⊢; omega)
 ·(repeat (first | refine st ?_ | refine σa ?_ | refine d110_SoJ ?_ | ((first | refine σb ?_ | refine σc ?_); simp (disch := omega) only [push_cast, ↓reduceIte, reduceCtorEq, ν1, ν2, ν3, ν4, ν5, ζ1, ζ2, ζ3, ζ4, ζ5])))
  ((first | refine retA.ret (by rfl) ?_ | refine retA.normal (by rfl) ?_); simp (disch := omega) only [push_cast, ↓reduceIte, reduceCtorEq, Nat.reduceAdd, Nat.reduceMul, Nat.reduceLeDiff, Nat.reduceLT, Nat.reduceSub, Int.reduceNe, Int.reduceEq, Int.reduceLE, Int.reduceLT, Int.reduceToNat])
  exact ⟨ys, hR, hF, hP⟩
theorem d115_SoK {g n : Prop} (k : n) (h : n → g := by first | exact AW.dr (id := 1) (by rfl) [0, 1, 2, 3, 4, 5, 6, 7, 8, 9, 10, 11, 12, 13, 14, 15] (by kernel_rfl) (by kernel_rfl) | exact AW.dr (id := 3) (by rfl) [0, 1, 2, 3, 4, 5, 6, 7, 8, 9, 10, 11, 12, 13, 14] (by kernel_rfl) (by kernel_rfl) | exact AW.dr (id := 5) (by rfl) [0, 1, 2, 3, 4, 5, 6, 7, 8, 9, 10, 11, 12, 13] (by kernel_rfl) (by kernel_rfl) | exact AW.dr (id := 8) (by rfl) [0, 1, 2, 3, 4, 5, 6, 7, 8, 9, 10, 11, 12, 13, 14, 15] (by kernel_rfl) (by kernel_rfl)) : g := h k
theorem pe_spec {M : Mem} {b off n c : Nat} {pre post : List Value} {xs : List Int} (h : Rw M b off n c pre post xs) (a e p : Nat) (ha : a ≤ p) (hp : p < e) (he : e ≤ n) (hn : n ≤ 1000000000) :
  CallA Try.prog 115 [.slice (some ⟨b, off, none⟩) n c, .int .i64 a, .int .i64 e, .int .i64 p] M fun v M' => ∃ (m : Nat) (ys : List Int), v = .int .i64 m ∧ M' = M.set b (.row true 1 (pre ++ ints .u32 ys ++ post)) ∧ PermOn a e xs ys ∧ a < m ∧ m ≤ e ∧ (∀ i, a ≤ i → i < m → ys.getD i 0 ≤ xs.getD p 0) := by
 have hlen := h.len
 have hd0 : (swap xs a p).getD a 0 = xs.getD p 0 := by
  rw [swap_get (by omega) (by omega) (by omega)]
  by_cases e1 : a = p
  ·rw [if_pos e1, e1]
  ·rw [if_neg e1, if_pos rfl]
 have hz := h.put (ys := swap xs a p) (swap_length _ _ _)
 have hP0 : PermOn a e xs (swap xs a p) := PermOn.swap (by omega) (by omega) (by omega) (by omega) (by omega)
 have l1 := h.ld (i := p) (by omega)
 have l2 := h.ld (i := a) (by omega)
 have hR1 := h.put (ys := xs.set a (xs.getD p 0)) (by simp)
 (refine CallA.of_body Try.func115 rfl (by rfl) ?_; simp only [Try.ntmps115, List.length_cons, List.length_nil, List.replicate, List.cons_append, List.nil_append, Nat.reduceSub, Nat.reduceAdd])
 (repeat (first | refine st ?_ | refine σa ?_ | refine d115_SoK ?_ | ((first | refine σb ?_ | refine σc ?_); simp (disch := omega) only [push_cast, ↓reduceIte, reduceCtorEq, ν1, ν2, ν3, ν4, ν5, ζ1, ζ2, ζ3, ζ4, ζ5, l1, l2, hlen, w_i64, Int.toNat_natCast, h.get, hR1.get, h.room, hR1.room, h.spl, hR1.spl, Option.some.injEq, exists_eq_left', List.set_set, List.length_set, Blk.put, Blk.ours, Blk.cells])))
 clear l1 l2 hR1 hz
 refine AW.loopF [9, 10, 29, 30, 31, 32, 33, 34, 35, 36, 37, 38, 39, 40, 41, 42, 43, 44, 45, 46, 47, 48, 49, 50, 51, 52, 53, 54, 55, 56, 57, 58, 59, 60, 61, 62, 63, 64, 65, 66, 67, 68, 69, 70, 71, 72, 73, 74, 75, 76, 77, 78, 79, 80, 81, 82] (fun m g M' => ∃ i : Nat, g 9 = .int .i64 i ∧ ∃ j : Nat, g 10 = .int .i64 j ∧ a + 1 ≤ i ∧ i ≤ j + 1 ∧ j < e ∧ j + 2 ≤ i + m ∧ ∃ ys, M' = M.set b (.row true 1 (pre ++ ints .u32 ys ++ post)) ∧ PermOn a e xs ys ∧ ys.getD a 0 = xs.getD p 0 ∧ ∀ q, a < q → q < i → ys.getD q 0 ≤ xs.getD p 0) (e - a) ?_ ?_
 ·refine ⟨a + 1, rfl, e - 1, congrArg (Value.int .i64) (by omega), by omega, by omega, by omega, by omega, swap xs a p, rfl, hP0, hd0, fun q h1 h2 => by omega⟩
 clear hP0 hd0
 rintro m g M1 ⟨i0, h9, j, h10, hi0, hij0, hj, hm, ys, rfl, hP, h0, hlo⟩
 have hyl := hP.len
 have hR := h.put (ys := ys) (by omega)
 have la := hR.ld (i := a) (by omega)
 rw [h0] at la
 simp (disch := omega) only [push_cast, ↓reduceIte, reduceCtorEq, Nat.reduceAdd, Nat.reduceMul, Nat.reduceLeDiff, Nat.reduceLT, Nat.reduceSub, Int.reduceNe, Int.reduceEq, Int.reduceLE, Int.reduceLT, Int.reduceToNat, h9, h10]
 (repeat (first | refine st ?_ | refine σa ?_ | refine d115_SoK ?_ | ((first | refine σb ?_ | refine σc ?_); simp (disch := omega) only [push_cast, ↓reduceIte, reduceCtorEq, ν1, ν2, ν3, ν4, ν5, ζ1, ζ2, ζ3, ζ4, ζ5])))
 clear h9
 refine AW.loopX 2 [9, 29, 30, 31, 32, 33, 34, 35, 36, 37, 38, 39, 40, 41, 42, 43, 44, 45] (fun m g M' => ∃ i : Nat, g 9 = .int .i64 i ∧ i0 ≤ i ∧ i ≤ j + 1 ∧ j + 1 ≤ i + m ∧ M' = M.set b (.row true 1 (pre ++ ints .u32 ys ++ post)) ∧ ∀ q, a < q → q < i → ys.getD q 0 ≤ xs.getD p 0)
  (fun g M' => ∃ i : Nat, g 9 = .int .i64 i ∧ i0 ≤ i ∧ i ≤ j + 1 ∧ M' = M.set b (.row true 1 (pre ++ ints .u32 ys ++ post)) ∧ (∀ q, a < q → q < i → ys.getD q 0 ≤ xs.getD p 0) ∧ (i ≤ j → xs.getD p 0 < ys.getD i 0)) m ?_ ?_ ?_
 ·exact ⟨i0, rfl, by omega, hij0, by omega, rfl, hlo⟩
 ·clear hij0 hlo
  rintro m1 g1 M2 ⟨i, h9, hi1, hij, hm1, rfl, hlo⟩
  simp (disch := omega) only [push_cast, ↓reduceIte, reduceCtorEq, Nat.reduceAdd, Nat.reduceMul, Nat.reduceLeDiff, Nat.reduceLT, Nat.reduceSub, Int.reduceNe, Int.reduceEq, Int.reduceLE, Int.reduceLT, Int.reduceToNat, h9]
  by_cases hle : i ≤ j
  ·have hd : decide ((i : Int) ≤ j) = true := decide_eq_true (by omega)
   have l1 := hR.ld (i := i) (by omega)
   (repeat (first | refine st ?_ | refine σa ?_ | refine d115_SoK ?_ | ((first | refine σb ?_ | refine σc ?_); simp (disch := omega) only [push_cast, ↓reduceIte, reduceCtorEq, ν1, ν2, ν3, ν4, ν5, ζ1, ζ2, ζ3, ζ4, ζ5, hd, la, l1, hlen, w_i64, Int.toNat_natCast])))
   (refine (less_spec _ _ _).mono ?_; rintro r M3 ⟨rfl, rfl⟩; try refine ⟨Fr.refl _, ?_⟩)
   (repeat (first | refine st ?_ | refine σa ?_ | refine d115_SoK ?_ | ((first | refine σb ?_ | refine σc ?_); simp (disch := omega) only [push_cast, ↓reduceIte, reduceCtorEq, ν1, ν2, ν3, ν4, ν5, ζ1, ζ2, ζ3, ζ4, ζ5, hd])))
   ((first | refine AL.gu rfl (fun hc => ?_) (fun hc => ?_) | refine AW.condS rfl rfl (fun hc => ?_) (fun hc => ?_)) <;> (try (have hc' := hc; simp only [Bool.not_eq_true', Bool.not_eq_false', Bool.not_true, Bool.not_false, decide_eq_true_eq, decide_eq_false_iff_not, Classical.not_not, Int.not_lt, Int.not_le, gt_iff_lt, ge_iff_le, beq_iff_eq] at hc')))
   ·(repeat (first | refine st ?_ | refine σa ?_ | refine d115_SoK ?_ | ((first | refine σb ?_ | refine σc ?_); simp (disch := omega) only [push_cast, ↓reduceIte, reduceCtorEq, ν1, ν2, ν3, ν4, ν5, ζ1, ζ2, ζ3, ζ4, ζ5, w_i64])))
    refine ⟨rfl, m1 - 1, by omega, i + 1, rfl, by omega, by omega, by omega, rfl, fun q h1 h2 => ?_⟩
    by_cases hq : q = i
    ·rw [hq]; exact hc'
    ·exact hlo q h1 (by omega)
   ·(repeat (first | refine st ?_ | refine σa ?_ | refine d115_SoK ?_ | ((first | refine σb ?_ | refine σc ?_); simp (disch := omega) only [push_cast, ↓reduceIte, reduceCtorEq, ν1, ν2, ν3, ν4, ν5, ζ1, ζ2, ζ3, ζ4, ζ5])))
    exact ⟨rfl, i, rfl, hi1, hij, rfl, hlo, fun _ => hc'⟩
  ·have hd : decide ((i : Int) ≤ j) = false := decide_eq_false (by omega)
   (repeat (first | refine st ?_ | refine σa ?_ | refine d115_SoK ?_ | ((first | refine σb ?_ | refine σc ?_); simp (disch := omega) only [push_cast, ↓reduceIte, reduceCtorEq, ν1, ν2, ν3, ν4, ν5, ζ1, ζ2, ζ3, ζ4, ζ5, hd])))
   exact ⟨rfl, i, rfl, hi1, hij, rfl, hlo, fun h => absurd h hle⟩
 clear hlo
 rintro g1 M2 ⟨i, h9, hi1, hij, rfl, hlo, hex⟩
 simp (disch := omega) only [push_cast, ↓reduceIte, reduceCtorEq, Nat.reduceAdd, Nat.reduceMul, Nat.reduceLeDiff, Nat.reduceLT, Nat.reduceSub, Int.reduceNe, Int.reduceEq, Int.reduceLE, Int.reduceLT, Int.reduceToNat, h9]
 (repeat (first | refine st ?_ | refine σa ?_ | refine d115_SoK ?_ | ((first | refine σb ?_ | refine σc ?_); simp (disch := omega) only [push_cast, ↓reduceIte, reduceCtorEq, ν1, ν2, ν3, ν4, ν5, ζ1, ζ2, ζ3, ζ4, ζ5])))
 clear h10
 refine AW.loopX 4 [10, 46, 47, 48, 49, 50, 51, 52, 53, 54, 55, 56, 57, 58, 59, 60, 61] (fun m' g M' => ∃ j' : Nat, g 10 = .int .i64 j' ∧ j' ≤ j ∧ i ≤ j' + 1 ∧ j' ≤ m' ∧ M' = M.set b (.row true 1 (pre ++ ints .u32 ys ++ post)))
  (fun g M' => ∃ j' : Nat, g 10 = .int .i64 j' ∧ j' ≤ j ∧ i ≤ j' + 1 ∧ M' = M.set b (.row true 1 (pre ++ ints .u32 ys ++ post)) ∧ (i ≤ j' → ys.getD j' 0 ≤ xs.getD p 0)) j ?_ ?_ ?_
 ·exact ⟨j, rfl, by omega, hij, by omega, rfl⟩
 ·rintro m1 g1 M2 ⟨k, h10, hk1, hk2, hk3, rfl⟩
  simp (disch := omega) only [push_cast, ↓reduceIte, reduceCtorEq, Nat.reduceAdd, Nat.reduceMul, Nat.reduceLeDiff, Nat.reduceLT, Nat.reduceSub, Int.reduceNe, Int.reduceEq, Int.reduceLE, Int.reduceLT, Int.reduceToNat, h10]
  by_cases hle : i ≤ k
  ·have hd : decide ((i : Int) ≤ k) = true := decide_eq_true (by omega)
   have l1 := hR.ld (i := k) (by omega)
   (repeat (first | refine st ?_ | refine σa ?_ | refine d115_SoK ?_ | ((first | refine σb ?_ | refine σc ?_); simp (disch := omega) only [push_cast, ↓reduceIte, reduceCtorEq, ν1, ν2, ν3, ν4, ν5, ζ1, ζ2, ζ3, ζ4, ζ5, hd, la, l1, hlen, w_i64, Int.toNat_natCast])))
   (refine (less_spec _ _ _).mono ?_; rintro r M3 ⟨rfl, rfl⟩; try refine ⟨Fr.refl _, ?_⟩)
   (repeat (first | refine st ?_ | refine σa ?_ | refine d115_SoK ?_ | ((first | refine σb ?_ | refine σc ?_); simp (disch := omega) only [push_cast, ↓reduceIte, reduceCtorEq, ν1, ν2, ν3, ν4, ν5, ζ1, ζ2, ζ3, ζ4, ζ5, hd])))
   ((first | refine AL.gu rfl (fun hc => ?_) (fun hc => ?_) | refine AW.condS rfl rfl (fun hc => ?_) (fun hc => ?_)) <;> (try (have hc' := hc; simp only [Bool.not_eq_true', Bool.not_eq_false', Bool.not_true, Bool.not_false, decide_eq_true_eq, decide_eq_false_iff_not, Classical.not_not, Int.not_lt, Int.not_le, gt_iff_lt, ge_iff_le, beq_iff_eq] at hc')))
   ·(repeat (first | refine st ?_ | refine σa ?_ | refine d115_SoK ?_ | ((first | refine σb ?_ | refine σc ?_); simp (disch := omega) only [push_cast, ↓reduceIte, reduceCtorEq, ν1, ν2, ν3, ν4, ν5, ζ1, ζ2, ζ3, ζ4, ζ5, w_i64])))
    exact ⟨rfl, m1 - 1, by omega, k - 1, congrArg (Value.int .i64) (by omega), by omega, by omega, by omega, rfl⟩
   ·(repeat (first | refine st ?_ | refine σa ?_ | refine d115_SoK ?_ | ((first | refine σb ?_ | refine σc ?_); simp (disch := omega) only [push_cast, ↓reduceIte, reduceCtorEq, ν1, ν2, ν3, ν4, ν5, ζ1, ζ2, ζ3, ζ4, ζ5])))
    exact ⟨rfl, k, rfl, hk1, hk2, rfl, fun _ => hc'⟩
  ·have hd : decide ((i : Int) ≤ k) = false := decide_eq_false (by omega)
   (repeat (first | refine st ?_ | refine σa ?_ | refine d115_SoK ?_ | ((first | refine σb ?_ | refine σc ?_); simp (disch := omega) only [push_cast, ↓reduceIte, reduceCtorEq, ν1, ν2, ν3, ν4, ν5, ζ1, ζ2, ζ3, ζ4, ζ5, hd])))
   exact ⟨rfl, k, rfl, hk1, hk2, rfl, fun h => absurd h hle⟩
 rintro g2 M2 ⟨k, h10, hk1, hk2, rfl, hex2⟩
 simp (disch := omega) only [push_cast, ↓reduceIte, reduceCtorEq, Nat.reduceAdd, Nat.reduceMul, Nat.reduceLeDiff, Nat.reduceLT, Nat.reduceSub, Int.reduceNe, Int.reduceEq, Int.reduceLE, Int.reduceLT, Int.reduceToNat, h10]
 (repeat (first | refine st ?_ | refine σa ?_ | refine d115_SoK ?_ | ((first | refine σb ?_ | refine σc ?_); simp (disch := omega) only [push_cast, ↓reduceIte, reduceCtorEq, ν1, ν2, ν3, ν4, ν5, ζ1, ζ2, ζ3, ζ4, ζ5])))
 ((first | refine AL.gu rfl (fun hgt => ?_) (fun hgt => ?_) | refine AW.condS rfl rfl (fun hgt => ?_) (fun hgt => ?_)) <;> (try (have hgt' := hgt; simp only [Bool.not_eq_true', Bool.not_eq_false', Bool.not_true, Bool.not_false, decide_eq_true_eq, decide_eq_false_iff_not, Classical.not_not, Int.not_lt, Int.not_le, gt_iff_lt, ge_iff_le, beq_iff_eq] at hgt')))
 ·(repeat (first | refine st ?_ | refine σa ?_ | refine d115_SoK ?_ | ((first | refine σb ?_ | refine σc ?_); simp (disch := omega) only [push_cast, ↓reduceIte, reduceCtorEq, ν1, ν2, ν3, ν4, ν5, ζ1, ζ2, ζ3, ζ4, ζ5])))
  ((first | refine retA.ret (by rfl) ?_ | refine retA.normal (by rfl) ?_); simp (disch := omega) only [push_cast, ↓reduceIte, reduceCtorEq, Nat.reduceAdd, Nat.reduceMul, Nat.reduceLeDiff, Nat.reduceLT, Nat.reduceSub, Int.reduceNe, Int.reduceEq, Int.reduceLE, Int.reduceLT, Int.reduceToNat])
  refine ⟨i, rfl, ys, rfl, hP, by omega, by omega, fun q h1 h2 => ?_⟩
  by_cases hq : q = a
  ·rw [hq, h0]; exact Int.le_refl _
  ·exact hlo q (by omega) h2
 ·have hle : i ≤ k := by omega
  have x1 := hex (by omega)
  have x2 := hex2 hle
  have hne : i ≠ k := fun e => by rw [e] at x1; omega
  have l1 := hR.ld (i := k) (by omega)
  have l2 := hR.ld (i := i) (by omega)
  have hR1 := h.put (ys := ys.set i (ys.getD k 0)) (by simp; omega)
  (repeat (first | refine st ?_ | refine σa ?_ | refine d115_SoK ?_ | ((first | refine σb ?_ | refine σc ?_); simp (disch := omega) only [push_cast, ↓reduceIte, reduceCtorEq, ν1, ν2, ν3, ν4, ν5, ζ1, ζ2, ζ3, ζ4, ζ5, l1, l2, hlen, w_i64, Int.toNat_natCast, hR.get, hR1.get, hR.room, hR1.room, hR.spl, hR1.spl, Option.some.injEq, exists_eq_left', List.set_set, List.length_set, Blk.put, Blk.ours, Blk.cells])))
  refine ⟨rfl, m - 2, by omega, i + 1, rfl, k - 1, congrArg (Value.int .i64) (by omega), by omega, by omega, by omega, by omega, swap ys i k, rfl, hP.trans (PermOn.swap (by omega) (by omega) (by omega) (by omega) (by omega)), ?_, fun q h1 h2 => ?_⟩
  ·rw [swap_get (by omega) (by omega) (by omega), if_neg (by omega), if_neg (by omega)]; exact h0
  ·rw [swap_get (by omega) (by omega) (by omega), if_neg (by omega)]
   by_cases hq : q = i
   ·rw [if_pos hq]; exact x2
   ·rw [if_neg hq]; exact hlo q h1 (by omega)
end Go.Proofs.Ytbdejnnbpdgjlaa.Ax
