/- Contracts of functions over the abstract machine. No conditions: lemmas alone. -/
import Derived.Test.YtbdejnnbpdgjlaaPeerXLibD
import Derived.Test.YtbdejnnbpdgjlaaPeerXP0
import Derived.Test.YtbdejnnbpdgjlaaPeerXP15
import Derived.Test.YtbdejnnbpdgjlaaPeerXP3
import Derived.Test.YtbdejnnbpdgjlaaPeerXP19
import Derived.Test.YtbdejnnbpdgjlaaPeerXP17
namespace Go.Proofs.Ytbdejnnbpdgjlaa.Ax
open Go Go.RowKit
open Nat renaming reduceAdd → ν1, reduceMul → ν2, reduceLeDiff → ν3, reduceLT → ν4, reduceSub → ν5
open Int renaming reduceNe → ζ1, reduceEq → ζ2, reduceLE → ζ3, reduceLT → ζ4, reduceToNat → ζ5
set_option linter.unusedVariables false
set_option linter.unusedSimpArgs false
set_option maxRecDepth 100000
set_option maxHeartbeats 20000000
attribute [local irreducible] thenA blockA scopeA retA AL AW AD ADL AH clrK CallA apure aload bload appK ptrK fnK ares szOk planOk okOps
theorem d88_Nl4 {g n : Prop} (k : n) (h : n → g := by first | exact AW.dr (id := 13) (by rfl) [0, 1, 2, 3, 4, 5, 6, 7, 8, 9, 10] (by kernel_rfl) (by kernel_rfl)) : g := h k
theorem addrOf_succ {zs : List Int} {i : Nat} (h : i < 4) : addrOf zs (i + 1) = addrOf zs i + zs.getD i 0 * 2 ^ (24 - 8 * i) := by
 match i, h with
 | 0, _ => simp [addrOf]
 | 1, _ => simp [addrOf]
 | 2, _ => simp [addrOf]
 | 3, _ => simp [addrOf]
theorem addrOf_mod {zs : List Int} {i : Nat} (h : i < 4) : addrOf zs i % 2 ^ (24 - 8 * i + 8) = 0 := by
 match i, h with
 | 0, _ => simp [addrOf]
 | 1, _ => simp [addrOf]
 | 2, _ => simp [addrOf]; omega
 | 3, _ => simp [addrOf]; omega
theorem addrOf_lt {zs : List Int} (i : Nat) (hb : ∀ x ∈ zs, 0 ≤ x ∧ x ≤ 255) : 0 ≤ addrOf zs i ∧ addrOf zs i < 4294967296 := by
 have h0 := getD_byte hb 0
 have h1 := getD_byte hb 1
 have h2 := getD_byte hb 2
 have h3 := getD_byte hb 3
 have a0 := h0.1
 have a1 := h1.1
 have a2 := h2.1
 have a3 := h3.1
 have c0 := h0.2
 have c1 := h1.2
 have c2 := h2.2
 have c3 := h3.2
 unfold addrOf
 split <;> split <;> split <;> split <;> omega
def nlJoin (out : List PX) (r : List PX × Int) : List PX × Int := if r.2 = 0 then (out ++ r.1, 0) else ([], r.2)
theorem nlR_bad5 {ys : List Int} (h : ys ≠ []) (h2 : 32 < ys.getD 0 0) : nlR ys = ([], 5) := by unfold nlR; rw [nlRead, if_neg h, if_pos h2]
theorem nlR_bad3 {ys : List Int} (h : ys ≠ []) (h2 : ¬ 32 < ys.getD 0 0) (h3 : ys.length < 1 + nbytes (ys.getD 0 0)) : nlR ys = ([], 3) := by unfold nlR; rw [nlRead, if_neg h, if_neg h2, if_pos h3]
theorem nlR_good {ys : List Int} {out : List PX} (h : ys ≠ []) (h2 : ¬ 32 < ys.getD 0 0) (h3 : ¬ ys.length < 1 + nbytes (ys.getD 0 0)) :
  nlJoin out (nlR ys) = nlJoin (out ++ [maskP (addrOf (ys.drop 1) (nbytes (ys.getD 0 0)), ys.getD 0 0)]) (nlR (ys.drop (1 + nbytes (ys.getD 0 0)))) := by
 have hp := List.length_pos_iff.2 h
 have e : nlR ys = if (nlR (ys.drop (1 + nbytes (ys.getD 0 0)))).2 = 0 then (maskP (addrOf (ys.drop 1) (nbytes (ys.getD 0 0)), ys.getD 0 0) :: (nlR (ys.drop (1 + nbytes (ys.getD 0 0)))).1, 0) else ([], (nlR (ys.drop (1 + nbytes (ys.getD 0 0)))).2) := by
  unfold nlR
  rw [nlRead, if_neg h, if_neg h2, if_neg h3, nlRead_fuel (f := ys.length) (g := (ys.drop (1 + nbytes (ys.getD 0 0))).length + 1) (by rw [List.length_drop]; omega) (by omega)]
 rw [e]
 unfold nlJoin
 split
 ·rename_i h0
  rw [if_pos rfl]; simp
 ·rfl
def RdJ (M : Mem) (xs : List Int) (n : Nat) (a o : Value) (M' : Mem) : Prop :=
 ∃ ys out, n = ys.length ∧ Sl M' a 1 (ints .u8 ys) ∧ ys.length ≤ xs.length ∧ (∀ x ∈ ys, 0 ≤ x ∧ x ≤ 255) ∧ (∀ b ∈ blkOf a, b < M.length) ∧ Fr M M' [] ∧ New M M' o 2 (pxs out) ∧ out.length + ys.length ≤ xs.length ∧ nlR xs = nlJoin out (nlR ys)
theorem nlRead_err : ∀ (f : Nat) (xs : List Int), (nlRead f xs).2 ≠ 0 → (nlRead f xs).1 = []
 | 0, _, h => absurd rfl h
 | f + 1, xs, h => by
  unfold nlRead at h ⊢
  split at h
  ·exact absurd rfl h
  ·rename_i h1
   rw [if_neg h1]
   split at h
   ·rename_i h2; rw [if_pos h2]
   ·rename_i h2
    rw [if_neg h2]
    split at h
    ·rename_i h3; rw [if_pos h3]
    ·rename_i h3
     rw [if_neg h3]
     split at h
     ·exact absurd rfl h
     ·rename_i h4; rw [if_neg h4]
theorem nlJoin_nil (xs : List Int) : nlR xs = nlJoin [] (nlR xs) := by
 unfold nlJoin
 split
 ·rename_i h; rw [List.nil_append, ← h]
 ·rename_i h; exact Prod.ext (nlRead_err _ _ h) rfl
theorem nlread_spec (v : Value) (xs : List Int) (M : Mem) (hv : Sl M v 1 (ints .u8 xs)) (hx : xs.length ≤ 100000) (hb : ∀ x ∈ xs, 0 ≤ x ∧ x ≤ 255) : CallA Try.prog 88 [v] M fun r M' => Fr M M' [] ∧ ∃ w, r = .tuple ⟨[w, .int .i64 (nlR xs).2]⟩ ∧ Sl M' w 2 (pxs (nlR xs).1) ∧ ∀ b ∈ blkOf w, M.length ≤ b := by
 (refine CallA.of_body Try.func88 rfl (by rfl) ?_; simp only [Try.ntmps88, List.length_cons, List.length_nil, List.replicate, List.cons_append, List.nil_append, Nat.reduceSub, Nat.reduceAdd])
 (repeat (first | refine st ?_ | refine σa ?_ | refine d88_Nl4 ?_ | ((first | refine σb ?_ | refine σc ?_); simp (disch := omega) only [push_cast, ↓reduceIte, reduceCtorEq, ν1, ν2, ν3, ν4, ν5, ζ1, ζ2, ζ3, ζ4, ζ5])))
 refine AW.scopeK 0 9 59 (fun n g M' => RdJ M xs n (g 0) (g 4) M') (fun _ _ => False) ?_ ?_ ?_
 ·rintro n g M1 ⟨ys, out, rfl, hw, hyl, hyb, hblk, hF, hN, hol, hP⟩
  show AW _ (.seq _ _) _ _ _
  generalize h0 : g 0 = w at *
  generalize h4 : g 4 = o at *
  simp (disch := omega) only [push_cast, ↓reduceIte, reduceCtorEq, Nat.reduceAdd, Nat.reduceMul, Nat.reduceLeDiff, Nat.reduceLT, Nat.reduceSub, Int.reduceNe, Int.reduceEq, Int.reduceLE, Int.reduceLT, Int.reduceToNat, lstOf_zero, lstOf_succ, h0, h4]
  have hs := hw.isSl
  have hn := hw.lnI
  have hl0 := fun h1 => hw.ld0 (P := Try.prog) (ty := 5) (by kernel_rfl) h1
  by_cases hne : ys = []
  ·subst hne
   have d0 : decide ((([] : List Int).length : Int) = 0) = true := rfl
   (repeat (first | refine st ?_ | refine σa ?_ | refine d88_Nl4 ?_ | ((first | refine σb ?_ | refine σc ?_); simp (disch := omega) only [push_cast, ↓reduceIte, reduceCtorEq, ν1, ν2, ν3, ν4, ν5, ζ1, ζ2, ζ3, ζ4, ζ5, hs, hn, d0])))
   ((first | refine retA.ret (by rfl) ?_ | refine retA.normal (by rfl) ?_); simp (disch := omega) only [push_cast, ↓reduceIte, reduceCtorEq, Nat.reduceAdd, Nat.reduceMul, Nat.reduceLeDiff, Nat.reduceLT, Nat.reduceSub, Int.reduceNe, Int.reduceEq, Int.reduceLE, Int.reduceLT, Int.reduceToNat])
   have e : nlR xs = (out, 0) := by rw [hP]; simp [nlJoin, nlR_nil]
   rw [e]
   exact ⟨hF, o, rfl, hN.sl, hN.blk⟩
  have hp := List.length_pos_iff.2 hne
  have d0 : decide ((ys.length : Int) = 0) = false := decide_eq_false (by omega)
  have b0 := getD_byte hyb 0
  obtain ⟨y, hy⟩ : ∃ y, y = ys.getD 0 0 := ⟨_, rfl⟩
  rw [← hy] at b0
  have b01 := b0.1
  have b02 := b0.2
  have wy : IntKind.i64.wrap y = y := w_i64 (by omega) (by omega)
  rw [← hy] at hl0
  by_cases c5 : 32 < y
  ·have d5 : decide (y > 32) = true := decide_eq_true c5
   (repeat (first | refine st ?_ | refine σa ?_ | refine d88_Nl4 ?_ | ((first | refine σb ?_ | refine σc ?_); simp (disch := omega) only [push_cast, ↓reduceIte, reduceCtorEq, ν1, ν2, ν3, ν4, ν5, ζ1, ζ2, ζ3, ζ4, ζ5, hs, hn, d0, hl0, wy, d5, buildE, memE, boxE])))
   ((first | refine retA.ret (by rfl) ?_ | refine retA.normal (by rfl) ?_); simp (disch := omega) only [push_cast, ↓reduceIte, reduceCtorEq, Nat.reduceAdd, Nat.reduceMul, Nat.reduceLeDiff, Nat.reduceLT, Nat.reduceSub, Int.reduceNe, Int.reduceEq, Int.reduceLE, Int.reduceLT, Int.reduceToNat])
   have e : nlR xs = ([], 5) := by rw [hP, nlR_bad5 hne (by omega)]; simp [nlJoin]
   rw [e]
   exact ⟨hF.tr (Fr.push _ _), .slice none 0 0, rfl, Sl.nil _ (by omega), fun b h => by cases h⟩
  have d5 : decide (y > 32) = false := decide_eq_false c5
  (repeat (first | refine st ?_ | refine σa ?_ | refine d88_Nl4 ?_ | ((first | refine σb ?_ | refine σc ?_); simp (disch := omega) only [push_cast, ↓reduceIte, reduceCtorEq, ν1, ν2, ν3, ν4, ν5, ζ1, ζ2, ζ3, ζ4, ζ5, hs, hn, d0, hl0, wy, d5, buildE, memE, boxE])))
  refine (nbytes_spec y _ (by omega)).mono ?_
  rintro r M2 ⟨rfl, rfl⟩
  obtain ⟨nb, hnb⟩ : ∃ nb, nb = nbytes y := ⟨_, rfl⟩
  have nb4 := nbytes_le (n := y) (by omega)
  rw [← hnb] at nb4 ⊢
  have wn : IntKind.i64.wrap (1 + (nb : Int)) = 1 + nb := w_i64 (by omega) (by omega)
  by_cases c3 : ys.length < 1 + nb
  ·have d3 : decide ((ys.length : Int) < 1 + nb) = true := decide_eq_true (by omega)
   (repeat (first | refine st ?_ | refine σa ?_ | refine d88_Nl4 ?_ | ((first | refine σb ?_ | refine σc ?_); simp (disch := omega) only [push_cast, ↓reduceIte, reduceCtorEq, ν1, ν2, ν3, ν4, ν5, ζ1, ζ2, ζ3, ζ4, ζ5, hs, hn, wn, d3])))
   ((first | refine retA.ret (by rfl) ?_ | refine retA.normal (by rfl) ?_); simp (disch := omega) only [push_cast, ↓reduceIte, reduceCtorEq, Nat.reduceAdd, Nat.reduceMul, Nat.reduceLeDiff, Nat.reduceLT, Nat.reduceSub, Int.reduceNe, Int.reduceEq, Int.reduceLE, Int.reduceLT, Int.reduceToNat])
   have e : nlR xs = ([], 3) := by rw [hP, nlR_bad3 hne (by omega) (by rw [← hy, ← hnb]; exact c3)]; simp [nlJoin]
   rw [e]
   exact ⟨hF.tr (Fr.push _ _), .slice none 0 0, rfl, Sl.nil _ (by omega), fun b h => by cases h⟩
  have d3 : decide ((ys.length : Int) < 1 + nb) = false := decide_eq_false (by omega)
  obtain ⟨M2, hM2⟩ : ∃ M2, M2 = M1 ++ [Blk.box [.int .u32 0, .int .i64 y]] := ⟨_, rfl⟩
  have P2 := Fr.push M1 (.box [.int .u32 0, .int .i64 y])
  have A2 := At.push M1 (.box [.int .u32 0, .int .i64 y])
  rw [← hM2] at P2 A2 ⊢
  have hw2 := hw.keep P2 (by simp)
  obtain ⟨w1, hw1', p1⟩ := hw.pcMid 1 (1 + nb) (by omega) (by omega)
  have hw1 : aslice w 1 (some (.int .i64 1)) (some (.int .i64 (1 + (nb : Int)))) none = some w1 := hw1'
  have hsz := hw2.sz
  have hs1 := p1.sl.isSl
  have hn1 := p1.sl.lnI
  rw [Nat.add_sub_cancel_left] at hn1
  have hl1 : ((ys.drop 1).take nb).length = nb := by rw [List.length_take, List.length_drop]; omega
  rw [hl1] at hn1
  (repeat (first | refine st ?_ | refine σa ?_ | refine d88_Nl4 ?_ | ((first | refine σb ?_ | refine σc ?_); simp (disch := omega) only [push_cast, ↓reduceIte, reduceCtorEq, ν1, ν2, ν3, ν4, ν5, ζ1, ζ2, ζ3, ζ4, ζ5, hs, hn, wn, d3, hw1, hsz, hs1, hn1, Option.map_none, memE, boxE])))
  obtain ⟨zs, hzs⟩ : ∃ zs, zs = ys.drop 1 := ⟨_, rfl⟩
  rw [Nat.add_sub_cancel_left, ← hzs] at p1
  rw [← hzs] at hl1
  have hzb : ∀ x ∈ zs, 0 ≤ x ∧ x ≤ 255 := fun x h => hyb x (List.mem_of_mem_drop (by rw [hzs] at h; exact h))
  refine AW.loopF [7, 8, 34, 35, 36, 37, 38, 39, 40, 41, 42, 43, 44, 45, 46, 47, 48, 49] (fun n g M' => ∃ i : Nat, g 34 = .int .i64 i ∧ i + n = nb ∧ Fr M1 M' [] ∧ At M' M1.length (.box [.int .u32 (addrOf zs i), .int .i64 y])) nb ?_ ?_
  ·exact ⟨0, rfl, by omega, P2, by simpa [addrOf] using A2⟩
  rintro n g M3 ⟨i, h34, hi, F3, A3⟩
  simp (disch := omega) only [push_cast, ↓reduceIte, reduceCtorEq, Nat.reduceAdd, Nat.reduceMul, Nat.reduceLeDiff, Nat.reduceLT, Nat.reduceSub, Int.reduceNe, Int.reduceEq, Int.reduceLE, Int.reduceLT, Int.reduceToNat, h34]
  (repeat (first | refine st ?_ | refine σa ?_ | refine d88_Nl4 ?_ | ((first | refine σb ?_ | refine σc ?_); simp (disch := omega) only [push_cast, ↓reduceIte, reduceCtorEq, ν1, ν2, ν3, ν4, ν5, ζ1, ζ2, ζ3, ζ4, ζ5])))
  ((first | refine AL.gu rfl (fun hlt => ?_) (fun hlt => ?_) | refine AW.condS rfl rfl (fun hlt => ?_) (fun hlt => ?_)) <;> (try (have hlt' := hlt; simp only [Bool.not_eq_true', Bool.not_eq_false', Bool.not_true, Bool.not_false, decide_eq_true_eq, decide_eq_false_iff_not, Classical.not_not, Int.not_lt, Int.not_le, gt_iff_lt, ge_iff_le, beq_iff_eq] at hlt')))
  ·have hin : i < nb := by omega
   have hp3 := p1.sl.keep F3 (by simp)
   have hs3 := hp3.isSl
   have hn3 := hp3.lnI
   rw [hl1] at hn3
   have hl3 := hp3.ldN (P := Try.prog) (ty := 5) (by kernel_rfl) (i := i) (by rw [hl1]; exact hin)
   have gd : (zs.take nb).getD i 0 = zs.getD i 0 := by simp [List.getD_eq_getElem?_getD, List.getElem?_take, hin]
   rw [gd] at hl3
   have bi := getD_byte hzb i
   obtain ⟨z, hz⟩ : ∃ z, z = zs.getD i 0 := ⟨_, rfl⟩
   rw [← hz] at bi hl3
   have bi1 := bi.1
   have bi2 := bi.2
   obtain ⟨j, hj⟩ : ∃ j, j = 24 - 8 * i := ⟨_, rfl⟩
   have wi8 : IntKind.i64.wrap (8 * (i : Int)) = 8 * i := w_i64 (by omega) (by omega)
   have sj : (24 : Int) - 8 * i = j := by omega
   have wj : IntKind.i64.wrap (j : Int) = j := w_i64 (by omega) (by omega)
   have mj : min j IntKind.u32.bits = j := Nat.min_eq_left (by show j ≤ 32; omega)
   have pj : (2 : Int) ^ j ≤ 16777216 := by
    have : j = 24 ∨ j = 16 ∨ j = 8 ∨ j = 0 := by omega
    rcases this with rfl | rfl | rfl | rfl <;> decide
   have pj0 : (0 : Int) < 2 ^ j := Int.pow_pos (by decide)
   have zp0 : 0 ≤ z * 2 ^ j := Int.mul_nonneg (by omega) (by omega)
   have zp1 : z * 2 ^ j ≤ 255 * 2 ^ j := Int.mul_le_mul_of_nonneg_right bi2 (by omega)
   have wz : IntKind.u32.wrap z = z := w_u32 (by omega) (by omega)
   have wzp : IntKind.u32.wrap (z * 2 ^ j) = z * 2 ^ j := w_u32 (by omega) (by omega)
   have ps : (2 : Int) ^ (24 - 8 * i + 8) = 2 ^ j * 256 := by rw [← hj, Int.pow_add]; rfl
   have hsu := addrOf_succ (zs := zs) (i := i) (by omega)
   rw [← hz, ← hj] at hsu
   have hmo := addrOf_mod (zs := zs) (i := i) (by omega)
   have hlt := addrOf_lt (zs := zs) (i + 1) hzb
   have hle := addrOf_lt (zs := zs) i hzb
   have hor := or32 (24 - 8 * i + 8) (addrOf zs i) (z * 2 ^ j) hmo (by omega) zp0 (by rw [ps]; omega) (by omega)
   rw [← hsu] at hor
   (repeat (first | refine st ?_ | refine σa ?_ | refine d88_Nl4 ?_ | ((first | refine σb ?_ | refine σc ?_); simp (disch := omega) only [push_cast, ↓reduceIte, reduceCtorEq, ν1, ν2, ν3, ν4, ν5, ζ1, ζ2, ζ3, ζ4, ζ5, hs3, hn3, hl3, A3.ld, wi8, sj, wj, mj, wz, wzp, hor, Int.toNat_natCast, memE, boxE])))
   refine ⟨_, A3.get, rfl, by simp, ?_⟩
   (repeat (first | refine st ?_ | refine σa ?_ | refine d88_Nl4 ?_ | ((first | refine σb ?_ | refine σc ?_); simp (disch := omega) only [push_cast, ↓reduceIte, reduceCtorEq, ν1, ν2, ν3, ν4, ν5, ζ1, ζ2, ζ3, ζ4, ζ5])))
   refine ⟨rfl, n - 1, by omega, i + 1, by simp (disch := omega) only [push_cast, ↓reduceIte, reduceCtorEq, Nat.reduceAdd, Nat.reduceMul, Nat.reduceLeDiff, Nat.reduceLT, Nat.reduceSub, Int.reduceNe, Int.reduceEq, Int.reduceLE, Int.reduceLT, Int.reduceToNat, w_i64], by omega, ?_, A3.set _⟩
   exact (F3.trans (Fr.set M3 _ _)).cut fun b hb hlt => by simp at hb; omega
  ·obtain rfl : i = nb := by omega
   (repeat (first | refine st ?_ | refine σa ?_ | refine d88_Nl4 ?_ | ((first | refine σb ?_ | refine σc ?_); simp (disch := omega) only [push_cast, ↓reduceIte, reduceCtorEq, ν1, ν2, ν3, ν4, ν5, ζ1, ζ2, ζ3, ζ4, ζ5, A3.ld, buildE, memE, boxE])))
   refine (gmask_spec (addrOf zs i, y) _ (by have := addrOf_lt i hzb; simp only; omega)).mono ?_
   rintro r M4 ⟨F4, rfl⟩
   obtain ⟨q, hq⟩ : ∃ q, q = maskP (addrOf zs i, y) := ⟨_, rfl⟩
   rw [← hq]
   (repeat (first | refine st ?_ | refine σa ?_ | refine d88_Nl4 ?_ | ((first | refine σb ?_ | refine σc ?_); simp (disch := omega) only [push_cast, ↓reduceIte, reduceCtorEq, ν1, ν2, ν3, ν4, ν5, ζ1, ζ2, ζ3, ζ4, ζ5, buildE, memE, boxE])))
   have FM4 : Fr M1 M4 [] := F3.tr F4
   have P5 := Fr.push M4 (.row true 2 [.int .u32 q.1, .int .i64 q.2])
   have r5 := New.row M4 (s := 2) (n := 1) (cs := pxs [q]) (by omega) rfl rfl (by decide)
   have N5 : New M _ o 2 (pxs out) := hN.keep (FM4.tr P5) (by simp)
   have hol2 := pxs_length out
   have hol3 := pxs_length [q]
   refine appK.elems (P := Try.prog) (e := 32) (s := 2) (bt := 16) (z := [.int .u32 0, .int .i64 0]) (by kernel_rfl) (by kernel_rfl) (by kernel_rfl) rfl (by kernel_rfl) (by decide) N5.1 r5.sl (by rw [hol2, hol3]; simp; omega) ?_
   intro o2 M6 hN6 hF6
   have hbo := hN.1.sl.blks
   have FM6 : Fr M M6 [] := ((hF.tr FM4).tr P5).new N5 hF6
   have N6 : New M M6 o2 2 (pxs (out ++ [q])) := by
    have := hN6.after ((hF.tr FM4).tr P5)
    rwa [← pxs_append] at this
   obtain ⟨w2, hw2', p2⟩ := hw.pcFrom (1 + i) (by omega)
   have hw2a : aslice w 1 (some (.int .i64 (1 + (i : Int)))) none none = some w2 := hw2'
   have hno : ∀ b ∈ blkOf w, b ∉ blkOf o := fun b h h' => by have := hblk b h; have := hN.blk b h'; omega
   have hw6 := (hw.keep (FM4.tr P5) (by simp)).keep hF6 hno
   have hsz6 := hw6.sz
   (repeat (first | refine st ?_ | refine σa ?_ | refine d88_Nl4 ?_ | ((first | refine σb ?_ | refine σc ?_); simp (disch := omega) only [push_cast, ↓reduceIte, reduceCtorEq, ν1, ν2, ν3, ν4, ν5, ζ1, ζ2, ζ3, ζ4, ζ5, hs, hn, wn, hsz6, hw2a, Option.map_none])))
   refine scopeA.goto rfl (ys.drop (1 + i)).length (fun k hk => by cases hk; rw [List.length_drop]; omega) ⟨rfl, .inl ⟨rfl, ys.drop (1 + i), out ++ [q], rfl, ((p2.keep (FM4.tr P5) (by simp)).keep hF6 hno).sl, by rw [List.length_drop]; omega, fun x h => hyb x (List.mem_of_mem_drop h), fun b hb => hblk b (p2.blk b hb), FM6, N6, by rw [List.length_append, List.length_drop, List.length_singleton]; omega, ?_⟩⟩
   rw [hP, nlR_good (out := out) hne (by rw [← hy]; exact c5) (by rw [← hy, ← hnb]; exact c3), ← hy, ← hnb, ← hzs, ← hq]
 ·rintro n g M1 h; exact h.elim
 ·intro hp
  (repeat (first | refine st ?_ | refine σl ?_ | refine d88_Nl4 ?_ | ((first | refine σb ?_ | refine σc ?_); simp (disch := omega) only [push_cast, ↓reduceIte, reduceCtorEq, ν1, ν2, ν3, ν4, ν5, ζ1, ζ2, ζ3, ζ4, ζ5])))
  refine AW.label ?_
  refine thenA.normal ?_
  refine hp xs.length _ M rfl ?_
  exact ⟨xs, [], rfl, hv, Nat.le_refl _, hb, hv.blks, Fr.refl M, New.nil M (by omega), by simp, nlJoin_nil xs⟩
def mvU (g : Value) (o : Int) (p : Value) (h me pr : Int) (hm hp : Bool) (c nw : Value) : List Value := [.int .i64 2, .int .u32 0, .int .u32 0, .int .i64 0, g, .int .i64 o, p, .int .u32 h, .int .u32 me, .int .u32 pr, .bool hm, .bool hp, c, nw, .int .i64 0, .int .i64 0, .slice none 0 0]
theorem MR.bad {lo : Nat} {M : Mem} {P : MV × (Int × Int)} {c1 c2 : Int} (h : P.2 = (c1, c2)) (hne : (c1, c2) ≠ (0, 0)) (g : Value) (o : Int) (p : Value) (hh me pr : Int) (hm hp : Bool) (c nw : Value) (h1 : isSl g = true) (h2 : isSl p = true) (h3 : isSl c = true) (h4 : isSl nw = true) : MR lo M (.tuple ⟨[.agg ⟨mvU g o p hh me pr hm hp c nw⟩, .agg ⟨[.int .i64 c1, .int .i64 c2]⟩]⟩) P :=
 ⟨{ MV.zero with kind := 2, attrs := ⟨o, [], hh, me, pr, hm, hp, []⟩ }, g, p, c, nw, .slice none 0 0, by rw [h]; rfl, ⟨h1, h2, h3, h4, rfl⟩, fun e => absurd (h.symm.trans e) hne⟩
theorem mupd_spec (v : Value) (b : List Int) (M : Mem) (hv : Sl M v 1 (ints .u8 b)) (hb : ∀ x ∈ b, 0 ≤ x ∧ x ≤ 255) (hl : b.length ≤ 5000) : CallA Try.prog 54 [v] M fun r M' => Fr M M' [] ∧ MR M.length M' r (updateP b) := by
 have cv := isSl_cl hv.isSl
 have ov := isSl_one hv.isSl
 simp only [Value.oneCell'] at ov
 (refine CallA.of_body Try.func54 rfl (by rfl) ?_; simp only [Try.ntmps54, List.length_cons, List.length_nil, List.replicate, List.cons_append, List.nil_append, Nat.reduceSub, Nat.reduceAdd])
 (repeat (first | refine st ?_ | refine σa ?_ | (refine σb ?_; simp (disch := omega) only [push_cast, ↓reduceIte, reduceCtorEq, ν1, ν2, ν3, ν4, ν5, ζ1, ζ2, ζ3, ζ4, ζ5, cv, ov, buildE, memE, boxE])))
 simp only [List.length_append, List.length_cons, List.length_nil, Nat.zero_add, Nat.add_assoc, Nat.reduceAdd]
 have F0 := ((Fr.push M (.box (mv0 2 0 0 0))).tr (Fr.push _ (.box [.int .i64 0, .int .i64 0]))).tr (Fr.push _ (.box [v, .bool false]))
 have A0 := ((At.push M (.box (mv0 2 0 0 0))).keep (Fr.push _ (.box [.int .i64 0, .int .i64 0])) (by simp)).keep (Fr.push _ (.box [v, .bool false])) (by simp)
 have Q0 := (At.push (M ++ [.box (mv0 2 0 0 0)]) (.box [.int .i64 0, .int .i64 0])).keep (Fr.push _ (.box [v, .bool false])) (by simp)
 have R0 := At.push (M ++ [.box (mv0 2 0 0 0)] ++ [.box [.int .i64 0, .int .i64 0]]) (.box [v, .bool false])
 simp only [List.length_append, List.length_cons, List.length_nil, Nat.zero_add, Nat.add_assoc, Nat.reduceAdd] at Q0 R0
 unfold mv0 at F0 A0 Q0 R0
 generalize M ++ [Blk.box [.int .i64 2, .int .u32 0, .int .u32 0, .int .i64 0, .slice none 0 0, .int .i64 0, .slice none 0 0, .int .u32 0, .int .u32 0, .int .u32 0, .bool false, .bool false, .slice none 0 0, .slice none 0 0, .int .i64 0, .int .i64 0, .slice none 0 0]] ++ [Blk.box [.int .i64 0, .int .i64 0]] ++ [Blk.box [v, .bool false]] = M0 at *
 obtain ⟨s, hs⟩ : ∃ s, s = M.length := ⟨_, rfl⟩
 rw [← hs] at A0 Q0 R0 ⊢
 have hvb := hv.blks
 have r0 : RdA M0 (s + 2) s b false := ⟨v, R0, hv.keep F0 (by simp), by omega, fun c h => by have := hvb _ h; omega⟩
 have hbd : ∀ n, ∀ x ∈ b.drop n, 0 ≤ x ∧ x ≤ 255 := fun n x hx => hb x (List.mem_of_mem_drop hx)
 have hM0 : s + 3 ≤ M0.length := R0.lt
 refine (rtwo_spec (s + 2) s b false M0 r0 hb).mono ?_
 rintro r M1 ⟨f1, r1, rfl⟩
 have A1 := A0.keep f1 (by simp)
 have Q1 := Q0.keep f1 (by simp)
 have pk := pairAt_rng (takeL_byte (n := 2) hb) 0
 obtain ⟨k, hk⟩ : ∃ k : Nat, pairAt (takeL 2 b) 0 = k := ⟨(pairAt (takeL 2 b) 0).toNat, by omega⟩
 rw [hk] at pk ⊢
 (repeat (first | refine st ?_ | refine σa ?_ | (refine σb ?_; simp (disch := omega) only [push_cast, ↓reduceIte, reduceCtorEq, ν1, ν2, ν3, ν4, ν5, ζ1, ζ2, ζ3, ζ4, ζ5])))
 refine (rtake_spec (s + 2) s k _ _ M1 r1 (by omega)).mono ?_
 rintro vg M2 ⟨f2, r2, sg, bg⟩
 have A2 := A1.keep f2 (by simp)
 have Q2 := Q1.keep f2 (by simp)
 rw [List.drop_drop] at r2
 (repeat (first | refine st ?_ | refine σa ?_ | (refine σb ?_; simp (disch := omega) only [push_cast, ↓reduceIte, reduceCtorEq, ν1, ν2, ν3, ν4, ν5, ζ1, ζ2, ζ3, ζ4, ζ5])))
 refine (rtwo_spec (s + 2) s _ _ M2 r2 (hbd _)).mono ?_
 rintro r M3 ⟨f3, r3, rfl⟩
 have A3 := A2.keep f3 (by simp)
 have Q3 := Q2.keep f3 (by simp)
 have pj := pairAt_rng (takeL_byte (n := 2) (hbd (2 + k))) 0
 obtain ⟨j, hj⟩ : ∃ j : Nat, pairAt (takeL 2 (b.drop (2 + k))) 0 = j := ⟨(pairAt (takeL 2 (b.drop (2 + k))) 0).toNat, by omega⟩
 rw [hj] at pj ⊢
 rw [List.drop_drop] at r3
 (repeat (first | refine st ?_ | refine σa ?_ | (refine σb ?_; simp (disch := omega) only [push_cast, ↓reduceIte, reduceCtorEq, ν1, ν2, ν3, ν4, ν5, ζ1, ζ2, ζ3, ζ4, ζ5])))
 refine (rtake_spec (s + 2) s j _ _ M3 r3 (by omega)).mono ?_
 rintro va M4 ⟨f4, r4, sa, ba⟩
 have A4 := A3.keep f4 (by simp)
 have Q4 := Q3.keep f4 (by simp)
 rw [List.drop_drop] at r4
 have F4 : Fr M M4 [] := ((((F0.trans f1).trans f2).trans f3).trans f4).cut (fun c hc hlt => by simp at hc; omega)
 have hS : (false || decide (b.length < 2) || decide ((b.drop 2).length < k) || decide ((b.drop (2 + k)).length < 2) || decide ((b.drop (2 + k + 2)).length < j)) = decide (b.length < 4 + k + j) := by
  rw [Bool.eq_iff_iff]; simp only [List.length_drop, Bool.or_eq_true, decide_eq_true_eq, Bool.false_eq_true, false_or]; omega
 rw [hS] at r4
 have r4' := r4
 obtain ⟨vr, a4, sr, lr, nr⟩ := r4'
 have ek : 2 ≤ b.length → updG b = k := fun h => by
  have := pair_take (b := b) (n := 0) (by omega)
  rw [List.drop_zero] at this
  unfold updG; rw [← this, hk]; exact Int.toNat_natCast k
 have ej : 4 + k ≤ b.length → updA b = j := fun h => by
  have := pair_take (b := b) (n := 2 + k) (by omega)
  unfold updA; rw [ek (by omega), ← this, hj]; exact Int.toNat_natCast j
 by_cases bad : b.length < 4 + k + j
 ·have e : (updateP b).2 = (3, 1) := by
   unfold updateP
   rw [if_pos]
   by_cases q : b.length < 2
   ·exact .inl (by omega)
   ·rw [ek (by omega)]
    by_cases q2 : b.length < 4 + k
    ·exact .inl q2
    ·rw [ej (by omega)]; exact .inr (by omega)
  rw [decide_eq_true bad] at a4
  (repeat (first | refine st ?_ | refine σa ?_ | (refine σb ?_; simp (disch := omega) only [push_cast, ↓reduceIte, reduceCtorEq, ν1, ν2, ν3, ν4, ν5, ζ1, ζ2, ζ3, ζ4, ζ5, a4.ld, A4.ld, Bool.not_true, Bool.not_false, A4.get, Q4.get, A4.same, Q4.same, List.drop_nil, List.append_nil, boxE, buildE])))
  have Ay := A4.keep (Fr.set M4 (s + 1) (.box [.int .i64 3, .int .i64 1])) (by simp)
  have Qy := Q4.set (.box [.int .i64 3, .int .i64 1])
  ((first | refine retA.ret (by rfl) ?_ | refine retA.normal (by rfl) ?_); simp (disch := omega) only [push_cast, ↓reduceIte, reduceCtorEq, Nat.reduceAdd, Nat.reduceMul, Nat.reduceLeDiff, Nat.reduceLT, Nat.reduceSub, Int.reduceNe, Int.reduceEq, Int.reduceLE, Int.reduceLT, Int.reduceToNat, Ay.ld, Qy.ld, buildE])
  exact ⟨(F4.trans (Fr.set M4 (s + 1) _)).cut (fun c hc hlt => by simp at hc; omega), MR.bad e (by simp) _ _ _ _ _ _ _ _ _ _ rfl rfl rfl rfl⟩
 rw [decide_eq_false bad] at a4
 have eG := ek (by omega)
 have eA := ej (by omega)
 have q1 := f1.1
 have q2 := f2.1
 have q3 := f3.1
 have q4 := f4.1
 have sg4 := (sg.keep f3 (fun c hc => by have := bg c hc; simp; omega)).keep f4 (fun c hc => by have := bg c hc; simp; omega)
 have eg : takeL k (b.drop 2) = (b.drop 2).take (updG b) := by rw [eG]; unfold takeL; rw [if_neg (by rw [List.length_drop]; omega)]
 have ea : takeL j (b.drop (2 + k + 2)) = (b.drop (4 + updG b)).take (updA b) := by
  rw [eG, eA, show 2 + k + 2 = 4 + k by omega]; unfold takeL; rw [if_neg (by rw [List.length_drop]; omega)]
 have en : b.drop (2 + k + 2 + j) = b.drop (4 + updG b + updA b) := by rw [eG, eA]; congr 1; omega
 obtain ⟨G, hG⟩ : ∃ G, G = (b.drop 2).take (updG b) := ⟨_, rfl⟩
 obtain ⟨A, hA⟩ : ∃ A, A = (b.drop (4 + updG b)).take (updA b) := ⟨_, rfl⟩
 obtain ⟨N, hN⟩ : ∃ N, N = b.drop (4 + updG b + updA b) := ⟨_, rfl⟩
 rw [eg, ← hG] at sg4
 rw [ea, ← hA] at sa
 rw [en, ← hN] at sr
 have bG : ∀ x ∈ G, 0 ≤ x ∧ x ≤ 255 := fun x hx => by rw [hG] at hx; exact hbd 2 x (List.mem_of_mem_take hx)
 have bA : ∀ x ∈ A, 0 ≤ x ∧ x ≤ 255 := fun x hx => by rw [hA] at hx; exact hbd _ x (List.mem_of_mem_take hx)
 have bN : ∀ x ∈ N, 0 ≤ x ∧ x ≤ 255 := fun x hx => by rw [hN] at hx; exact hbd _ x hx
 have lG : G.length ≤ 100000 := by rw [hG, List.length_take, List.length_drop]; omega
 have lA : A.length ≤ 100000 := by rw [hA, List.length_take, List.length_drop]; omega
 have lN : N.length ≤ 100000 := by rw [hN, List.length_drop]; omega
 have eU : updateP b = if (nlR G).2 ≠ 0 ∨ (nlR N).2 ≠ 0 then (MV.zero, (3, 10)) else if (rdP (decide ((nlR N).1 ≠ [])) A).2 ≠ 0 then (MV.zero, (3, (rdP (decide ((nlR N).1 ≠ [])) A).2))
   else ({ MV.zero with kind := 2, gone := (nlR G).1, attrs := (rdP (decide ((nlR N).1 ≠ [])) A).1, new := (nlR N).1 }, (0, 0)) := by
  unfold updateP
  rw [if_neg (by rw [eG, eA]; omega), ← hG, ← hA, ← hN]
 (repeat (first | refine st ?_ | refine σa ?_ | (refine σb ?_; simp (disch := omega) only [push_cast, ↓reduceIte, reduceCtorEq, ν1, ν2, ν3, ν4, ν5, ζ1, ζ2, ζ3, ζ4, ζ5, a4.ld, Bool.not_true, Bool.not_false, buildE])))
 refine (nlread_spec vg _ M4 sg4 lG bG).mono ?_
 rintro r M5 ⟨f5, wg, rfl, sw, bw⟩
 have A5 := A4.keep f5 (by simp)
 have Q5 := Q4.keep f5 (by simp)
 have a5 := a4.keep f5 (by simp)
 have sr5 := sr.keep f5 (by simp)
 have sa5 := sa.keep f5 (by simp)
 have F5 := F4.tr f5
 have q5 := f5.1
 obtain ⟨G1, G2, hRG⟩ : ∃ x y, nlR G = (x, y) := ⟨_, _, rfl⟩
 simp only [hRG] at sw eU ⊢
 have cw := isSl_cl sw.isSl
 have ow := isSl_one sw.isSl
 simp only [Value.oneCell'] at ow
 have As := A5.set (.box (mvU wg 0 (.slice none 0 0) 0 0 0 false false (.slice none 0 0) (.slice none 0 0)))
 have fs := Fr.set M5 s (.box (mvU wg 0 (.slice none 0 0) 0 0 0 false false (.slice none 0 0) (.slice none 0 0)))
 have Qs := Q5.keep fs (by simp)
 have asx := a5.keep fs (by simp)
 have srs := sr5.keep fs (fun c hc => by have := nr c hc; simp; omega)
 have sas := sa5.keep fs (fun c hc => by have := ba c hc; simp; omega)
 have sws := sw.keep fs (fun c hc => by have := bw c hc; simp; omega)
 have Fs : Fr M _ [] := (F5.trans fs).cut (fun c hc hlt => by simp at hc; omega)
 have hls : M5.length = (M5.set s (.box (mvU wg 0 (.slice none 0 0) 0 0 0 false false (.slice none 0 0) (.slice none 0 0)))).length := by simp
 unfold mvU at As fs Qs asx srs sas sws Fs hls
 have svr := srs.isSl
 have cvr := isSl_cl svr
 (repeat (first | refine st ?_ | refine σa ?_ | (refine σb ?_; simp (disch := omega) only [push_cast, ↓reduceIte, reduceCtorEq, ν1, ν2, ν3, ν4, ν5, ζ1, ζ2, ζ3, ζ4, ζ5, A5.get, A5.same, cw, ow, asx.ld, svr, cvr, List.drop_nil, List.append_nil, boxE, buildE])))
 generalize M5.set s (Blk.box [.int .i64 2, .int .u32 0, .int .u32 0, .int .i64 0, wg, .int .i64 0, .slice none 0 0, .int .u32 0, .int .u32 0, .int .u32 0, .bool false, .bool false, .slice none 0 0, .slice none 0 0, .int .i64 0, .int .i64 0, .slice none 0 0]) = M6 at *
 refine (nlread_spec vr _ M6 srs lN bN).mono ?_
 rintro r M7 ⟨f7, wn, rfl, sn, bn⟩
 have A7 := As.keep f7 (by simp)
 have Q7 := Qs.keep f7 (by simp)
 have sa7 := sas.keep f7 (by simp)
 have sw7 := sws.keep f7 (by simp)
 have F7 := Fs.tr f7
 have q7 := f7.1
 obtain ⟨N1, N2, hRN⟩ : ∃ x y, nlR N = (x, y) := ⟨_, _, rfl⟩
 simp only [hRN] at sn eU ⊢
 have cn := isSl_cl sn.isSl
 have on := isSl_one sn.isSl
 simp only [Value.oneCell'] at on
 have Au := A7.set (.box (mvU wg 0 (.slice none 0 0) 0 0 0 false false (.slice none 0 0) wn))
 have fu := Fr.set M7 s (.box (mvU wg 0 (.slice none 0 0) 0 0 0 false false (.slice none 0 0) wn))
 have Qu := Q7.keep fu (by simp)
 have sau := sa7.keep fu (fun c hc => by have := ba c hc; simp; omega)
 have swu := sw7.keep fu (fun c hc => by have := bw c hc; simp; omega)
 have snu := sn.keep fu (fun c hc => by have := bn c hc; simp; omega)
 have Fu : Fr M _ [] := (F7.trans fu).cut (fun c hc hlt => by simp at hc; omega)
 have hlu : M7.length = (M7.set s (.box (mvU wg 0 (.slice none 0 0) 0 0 0 false false (.slice none 0 0) wn))).length := by simp
 unfold mvU at Au fu Qu sau swu snu Fu hlu
 by_cases ce : G2 = 0 ∧ N2 = 0
 rotate_left
 ·have e : (updateP b).2 = (3, 10) := by rw [eU, if_pos (by omega)]
  have fin : ∀ M8, At M8 s (Blk.box (mvU wg 0 (.slice none 0 0) 0 0 0 false false (.slice none 0 0) wn)) → Fr M M8 [] → (Fr M (M8.set (s + 1) (.box [.int .i64 3, .int .i64 10])) [] ∧ MR s (M8.set (s + 1) (.box [.int .i64 3, .int .i64 10])) (.tuple ⟨[.agg ⟨mvU wg 0 (.slice none 0 0) 0 0 0 false false (.slice none 0 0) wn⟩, .agg ⟨[.int .i64 3, .int .i64 10]⟩]⟩) (updateP b)) := fun M8 _ F8 =>
   ⟨(F8.trans (Fr.set M8 (s + 1) _)).cut (fun c hc hlt => by simp at hc; omega), MR.bad e (by simp) _ _ _ _ _ _ _ _ _ _ sw.isSl rfl rfl sn.isSl⟩
  by_cases c1 : G2 = 0
  ·have d1 : decide (G2 = 0) = true := decide_eq_true c1
   have d2 : decide (N2 = 0) = false := decide_eq_false (by omega)
   (repeat (first | refine st ?_ | refine σa ?_ | (refine σb ?_; simp (disch := omega) only [push_cast, ↓reduceIte, reduceCtorEq, ν1, ν2, ν3, ν4, ν5, ζ1, ζ2, ζ3, ζ4, ζ5, A7.get, A7.same, cw, ow, cn, on, d1, d2, List.drop_nil, List.append_nil, Bool.not_true, Bool.not_false, Au.ld, Au.get, Qu.get, Au.same, Qu.same, boxE, buildE])))
   have Ay := Au.keep (Fr.set _ (s + 1) (.box [.int .i64 3, .int .i64 10])) (by simp)
   have Qy := Qu.set (.box [.int .i64 3, .int .i64 10])
   ((first | refine retA.ret (by rfl) ?_ | refine retA.normal (by rfl) ?_); simp (disch := omega) only [push_cast, ↓reduceIte, reduceCtorEq, Nat.reduceAdd, Nat.reduceMul, Nat.reduceLeDiff, Nat.reduceLT, Nat.reduceSub, Int.reduceNe, Int.reduceEq, Int.reduceLE, Int.reduceLT, Int.reduceToNat, Ay.ld, Qy.ld, cw, cn, ow, on, buildE])
   exact fin _ Au Fu
  ·have d1 : decide (G2 = 0) = false := decide_eq_false c1
   (repeat (first | refine st ?_ | refine σa ?_ | (refine σb ?_; simp (disch := omega) only [push_cast, ↓reduceIte, reduceCtorEq, ν1, ν2, ν3, ν4, ν5, ζ1, ζ2, ζ3, ζ4, ζ5, A7.get, A7.same, cw, ow, cn, on, d1, List.drop_nil, List.append_nil, Bool.not_true, Bool.not_false, Au.ld, Au.get, Qu.get, Au.same, Qu.same, boxE, buildE])))
   have Ay := Au.keep (Fr.set _ (s + 1) (.box [.int .i64 3, .int .i64 10])) (by simp)
   have Qy := Qu.set (.box [.int .i64 3, .int .i64 10])
   ((first | refine retA.ret (by rfl) ?_ | refine retA.normal (by rfl) ?_); simp (disch := omega) only [push_cast, ↓reduceIte, reduceCtorEq, Nat.reduceAdd, Nat.reduceMul, Nat.reduceLeDiff, Nat.reduceLT, Nat.reduceSub, Int.reduceNe, Int.reduceEq, Int.reduceLE, Int.reduceLT, Int.reduceToNat, Ay.ld, Qy.ld, cw, cn, ow, on, buildE])
   exact fin _ Au Fu
 obtain ⟨c1, c2⟩ := ce
 have d1 : decide (G2 = 0) = true := decide_eq_true c1
 have d2 : decide (N2 = 0) = true := decide_eq_true c2
 obtain ⟨need, hneed⟩ : ∃ need, need = decide (N1 ≠ []) := ⟨_, rfl⟩
 have dN : decide ((N1.length : Int) > 0) = need := by
  rw [hneed]
  cases N1 with
  | nil => simp
  | cons x l => simp
 rw [← hneed, if_neg (by omega)] at eU
 have snn := snu.isSl
 have lnn := snu.lnX
 (repeat (first | refine st ?_ | refine σa ?_ | (refine σb ?_; simp (disch := omega) only [push_cast, ↓reduceIte, reduceCtorEq, ν1, ν2, ν3, ν4, ν5, ζ1, ζ2, ζ3, ζ4, ζ5, A7.get, A7.same, cw, ow, cn, on, d1, d2, snn, lnn, dN, List.drop_nil, List.append_nil, Bool.not_true, Bool.not_false, Au.ld, boxE, buildE])))
 generalize M7.set s (Blk.box [.int .i64 2, .int .u32 0, .int .u32 0, .int .i64 0, wg, .int .i64 0, .slice none 0 0, .int .u32 0, .int .u32 0, .int .u32 0, .bool false, .bool false, .slice none 0 0, wn, .int .i64 0, .int .i64 0, .slice none 0 0]) = M8 at *
 obtain ⟨AT, E, hAE⟩ : ∃ x y, rdP need A = (x, y) := ⟨_, _, rfl⟩
 simp only [hAE] at eU
 refine readKn sau lA bA hAE fun M9 pv cv9 f9 sp sc op oc bp bc => ?_
 simp only [Value.oneCell'] at op oc
 have cp := isSl_cl sp.isSl
 have cc := isSl_cl sc.isSl
 have A9 := Au.keep f9 (by simp)
 have Q9 := Qu.keep f9 (by simp)
 have sw9 := swu.keep f9 (by simp)
 have sn9 := snu.keep f9 (by simp)
 have F9 := Fu.tr f9
 have q9 := f9.1
 have Aw := A9.set (.box (mvU wg AT.origin pv AT.hop AT.med AT.pref AT.hasMed AT.hasPref cv9 wn))
 have fw := Fr.set M9 s (.box (mvU wg AT.origin pv AT.hop AT.med AT.pref AT.hasMed AT.hasPref cv9 wn))
 have Qw := Q9.keep fw (by simp)
 have sww := sw9.keep fw (fun c hc => by have := bw c hc; simp; omega)
 have snw := sn9.keep fw (fun c hc => by have := bn c hc; simp; omega)
 have spw := sp.keep fw (fun c hc => by have := bp c hc; simp; omega)
 have scw := sc.keep fw (fun c hc => by have := bc c hc; simp; omega)
 have Fw : Fr M _ [] := (F9.trans fw).cut (fun c hc hlt => by simp at hc; omega)
 unfold mvU at Aw fw Qw sww snw spw scw Fw
 by_cases cE : E = 0
 rotate_left
 ·have dE : decide (E = 0) = false := decide_eq_false cE
  have e : (updateP b).2 = (3, E) := by rw [eU, if_pos cE]
  (repeat (first | refine st ?_ | refine σa ?_ | (refine σb ?_; simp (disch := omega) only [push_cast, ↓reduceIte, reduceCtorEq, ν1, ν2, ν3, ν4, ν5, ζ1, ζ2, ζ3, ζ4, ζ5, A9.get, A9.same, cw, ow, cn, on, cp, cc, op, oc, dE, avL, List.drop_nil, List.append_nil, Bool.not_true, Bool.not_false, Aw.ld, Aw.get, Qw.get, Aw.same, Qw.same, boxE, buildE])))
  have Ay := Aw.keep (Fr.set _ (s + 1) (.box [.int .i64 3, .int .i64 E])) (by simp)
  have Qy := Qw.set (.box [.int .i64 3, .int .i64 E])
  ((first | refine retA.ret (by rfl) ?_ | refine retA.normal (by rfl) ?_); simp (disch := omega) only [push_cast, ↓reduceIte, reduceCtorEq, Nat.reduceAdd, Nat.reduceMul, Nat.reduceLeDiff, Nat.reduceLT, Nat.reduceSub, Int.reduceNe, Int.reduceEq, Int.reduceLE, Int.reduceLT, Int.reduceToNat, Ay.ld, Qy.ld, cw, cn, cp, cc, ow, on, op, oc, buildE])
  exact ⟨(Fw.trans (Fr.set _ (s + 1) _)).cut (fun c hc hlt => by simp at hc; omega), MR.bad e (by simp [cE]) _ _ _ _ _ _ _ _ _ _ sw.isSl sp.isSl sc.isSl sn.isSl⟩
 have dE : decide (E = 0) = true := decide_eq_true cE
 rw [if_neg (by omega)] at eU
 (repeat (first | refine st ?_ | refine σa ?_ | (refine σb ?_; simp (disch := omega) only [push_cast, ↓reduceIte, reduceCtorEq, ν1, ν2, ν3, ν4, ν5, ζ1, ζ2, ζ3, ζ4, ζ5, A9.get, A9.same, cw, ow, cn, on, cp, cc, op, oc, dE, avL, List.drop_nil, List.append_nil, Bool.not_true, Bool.not_false, Aw.ld, Aw.get, Qw.get, Aw.same, Qw.same, boxE, buildE])))
 ((first | refine retA.ret (by rfl) ?_ | refine retA.normal (by rfl) ?_); simp (disch := omega) only [push_cast, ↓reduceIte, reduceCtorEq, Nat.reduceAdd, Nat.reduceMul, Nat.reduceLeDiff, Nat.reduceLT, Nat.reduceSub, Int.reduceNe, Int.reduceEq, Int.reduceLE, Int.reduceLT, Int.reduceToNat, Aw.ld, Qw.ld, cw, cn, cp, cc, ow, on, op, oc, buildE])
 refine ⟨Fw, (updateP b).1, wg, pv, cv9, wn, .slice none 0 0, by rw [eU]; rfl, ⟨sw.isSl, sp.isSl, sc.isSl, sn.isSl, rfl⟩, fun _ => ⟨rfl, ?_, ?_⟩⟩
 ·rw [eU]; exact ⟨sww, spw, scw, snw, Sl.nil _ (by omega)⟩
 ·intro x hx
  simp only [List.mem_append, blkOf, List.not_mem_nil, or_false] at hx
  rcases hx with h | h | h | h
  ·have := bw x h; omega
  ·have := bp x h; omega
  ·have := bc x h; omega
  ·have := bn x h; omega
theorem ft_eq (a b c d : Int) : aeqV Try.prog 3 46 (.agg ⟨[.int .i64 a, .int .i64 b]⟩) (.agg ⟨[.int .i64 c, .int .i64 d]⟩) = some (decide ((a, b) = (c, d))) := by
 have h : aeqV Try.prog 3 46 (.agg ⟨[.int .i64 a, .int .i64 b]⟩) (.agg ⟨[.int .i64 c, .int .i64 d]⟩) = if (a == c) = true then (if (b == d) = true then some true else some false) else some false := by kernel_rfl
 rw [h]
 by_cases h1 : a = c
 ·by_cases h2 : b = d
  ·simp [h1, h2]
  ·simp [h1, h2]
 ·simp [h1]
theorem clone_spec (v : Value) (xs : List Int) (M : Mem) (hv : Sl M v 1 (ints .u8 xs)) (hl : xs.length ≤ 1000000) : CallA Try.prog 55 [v] M fun r M' => Fr M M' [] ∧ New M M' r 1 (ints .u8 xs) := by
 have sv := hv.isSl
 have cv := isSl_cl hv.isSl
 (refine CallA.of_body Try.func55 rfl (by rfl) ?_; simp only [Try.ntmps55, List.length_cons, List.length_nil, List.replicate, List.cons_append, List.nil_append, Nat.reduceSub, Nat.reduceAdd])
 by_cases hn : nilB v = true
 ·obtain ⟨rfl, hc⟩ := nilB_sl hv hn
  (repeat (first | refine st ?_ | refine σa ?_ | (refine σb ?_; simp (disch := omega) only [push_cast, ↓reduceIte, reduceCtorEq, ν1, ν2, ν3, ν4, ν5, ζ1, ζ2, ζ3, ζ4, ζ5])))
  ((first | refine retA.ret (by rfl) ?_ | refine retA.normal (by rfl) ?_); simp (disch := omega) only [push_cast, ↓reduceIte, reduceCtorEq, Nat.reduceAdd, Nat.reduceMul, Nat.reduceLeDiff, Nat.reduceLT, Nat.reduceSub, Int.reduceNe, Int.reduceEq, Int.reduceLE, Int.reduceLT, Int.reduceToNat])
  exact ⟨Fr.refl M, by rw [hc]; exact New.nil M (by omega)⟩
 have hn' : nilB v = false := by simpa using hn
 (repeat (first | refine st ?_ | refine σa ?_ | (refine σb ?_; simp (disch := omega) only [push_cast, ↓reduceIte, reduceCtorEq, ν1, ν2, ν3, ν4, ν5, ζ1, ζ2, ζ3, ζ4, ζ5, hn'])))
 have P1 := Fr.push M (.row true 1 [])
 have r1 := New.row M (s := 1) (n := 0) (cs := ints .u8 []) (by omega) rfl rfl (by decide)
 refine appK.ints (P := Try.prog) (e := 5) (bt := 1) (z := .int .u8 0) (by kernel_rfl) (by kernel_rfl) (by kernel_rfl) (by kernel_rfl) (by decide) (xs := []) r1.1 (hv.keep P1 (by simp)) (by simp; omega) ?_
 intro v1 M2 hN2 hF2
 rw [List.nil_append] at hN2
 (repeat (first | refine st ?_ | refine σa ?_ | (refine σb ?_; simp (disch := omega) only [push_cast, ↓reduceIte, reduceCtorEq, ν1, ν2, ν3, ν4, ν5, ζ1, ζ2, ζ3, ζ4, ζ5])))
 ((first | refine retA.ret (by rfl) ?_ | refine retA.normal (by rfl) ?_); simp (disch := omega) only [push_cast, ↓reduceIte, reduceCtorEq, Nat.reduceAdd, Nat.reduceMul, Nat.reduceLeDiff, Nat.reduceLT, Nat.reduceSub, Int.reduceNe, Int.reduceEq, Int.reduceLE, Int.reduceLT, Int.reduceToNat])
 exact ⟨(P1.trans hF2).cut (fun b h hlt => by simp [blkOf] at h; try omega), hN2.after P1⟩
end Go.Proofs.Ytbdejnnbpdgjlaa.Ax
