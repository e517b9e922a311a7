/- Contracts of functions over the abstract machine. No conditions: lemmas alone. -/
import Derived.Test.YtbdejnnbpdgjlaaMsgXLibD
import Derived.Test.YtbdejnnbpdgjlaaMsgXP0
import Derived.Test.YtbdejnnbpdgjlaaMsgXP15
import Derived.Test.YtbdejnnbpdgjlaaMsgXP3
import Derived.Test.YtbdejnnbpdgjlaaMsgXP10
import Derived.Test.YtbdejnnbpdgjlaaMsgXP11
namespace Go.Proofs.Ytbdejnnbpdgjlaa.Ax
open Go Go.RowKit
open Nat renaming reduceAdd → ν1, reduceMul → ν2, reduceLeDiff → ν3, reduceLT → ν4, reduceSub → ν5
open Int renaming reduceNe → ζ1, reduceEq → ζ2, reduceLE → ζ3, reduceLT → ζ4, reduceToNat → ζ5
set_option linter.unusedVariables false
set_option linter.unusedSimpArgs false
set_option maxRecDepth 100000
set_option maxHeartbeats 20000000
attribute [local irreducible] thenA blockA scopeA retA AL AW AD ADL AH clrK CallA apure aload bload appK ptrK fnK ares szOk planOk okOps
theorem d88_Nl4 {g n : Prop} (k : n) (h : n → g := by first | exact AW.dr (id := 13) (by rfl) [0, 1, 2, 3, 4, 5, 6, 7, 8, 9, 10] (by kernel_rfl) (by kernel_rfl)) : g := h k
theorem addrOf_succ {zs : List Int} {i : Nat} (h : i < 4) : addrOf zs (i + 1) = addrOf zs i + zs.getD i 0 * 2 ^ (24 - 8 * i) := by
  match i, h with
  | 0, _ => simp [addrOf]
  | 1, _ => simp [addrOf]
  | 2, _ => simp [addrOf]
  | 3, _ => simp [addrOf]
theorem addrOf_mod {zs : List Int} {i : Nat} (h : i < 4) : addrOf zs i % 2 ^ (24 - 8 * i + 8) = 0 := by
  match i, h with
  | 0, _ => simp [addrOf]
  | 1, _ => simp [addrOf]
  | 2, _ => simp [addrOf]; omega
  | 3, _ => simp [addrOf]; omega
theorem addrOf_lt {zs : List Int} (i : Nat) (hb : ∀ x ∈ zs, 0 ≤ x ∧ x ≤ 255) : 0 ≤ addrOf zs i ∧ addrOf zs i < 4294967296 := by
  have h0 := getD_byte hb 0
  have h1 := getD_byte hb 1
  have h2 := getD_byte hb 2
  have h3 := getD_byte hb 3
  have a0 := h0.1
  have a1 := h1.1
  have a2 := h2.1
  have a3 := h3.1
  have c0 := h0.2
  have c1 := h1.2
  have c2 := h2.2
  have c3 := h3.2
  unfold addrOf
  split <;> split <;> split <;> split <;> omega
/-- What has been read, and what is left. -/
def nlJoin (out : List PX) (r : List PX × Int) : List PX × Int := if r.2 = 0 then (out ++ r.1, 0) else ([], r.2)
theorem nlR_bad5 {ys : List Int} (h : ys ≠ []) (h2 : 32 < ys.getD 0 0) : nlR ys = ([], 5) := by unfold nlR; rw [nlRead, if_neg h, if_pos h2]
theorem nlR_bad3 {ys : List Int} (h : ys ≠ []) (h2 : ¬ 32 < ys.getD 0 0) (h3 : ys.length < 1 + nbytes (ys.getD 0 0)) : nlR ys = ([], 3) := by unfold nlR; rw [nlRead, if_neg h, if_neg h2, if_pos h3]
theorem nlR_good {ys : List Int} {out : List PX} (h : ys ≠ []) (h2 : ¬ 32 < ys.getD 0 0) (h3 : ¬ ys.length < 1 + nbytes (ys.getD 0 0)) :
    nlJoin out (nlR ys) = nlJoin (out ++ [maskP (addrOf (ys.drop 1) (nbytes (ys.getD 0 0)), ys.getD 0 0)]) (nlR (ys.drop (1 + nbytes (ys.getD 0 0)))) := by
  have hp := List.length_pos_iff.2 h
  have e : nlR ys = if (nlR (ys.drop (1 + nbytes (ys.getD 0 0)))).2 = 0 then (maskP (addrOf (ys.drop 1) (nbytes (ys.getD 0 0)), ys.getD 0 0) :: (nlR (ys.drop (1 + nbytes (ys.getD 0 0)))).1, 0) else ([], (nlR (ys.drop (1 + nbytes (ys.getD 0 0)))).2) := by
    unfold nlR
    rw [nlRead, if_neg h, if_neg h2, if_neg h3, nlRead_fuel (f := ys.length) (g := (ys.drop (1 + nbytes (ys.getD 0 0))).length + 1) (by rw [List.length_drop]; omega) (by omega)]
  rw [e]
  unfold nlJoin
  split
  · rename_i h0
    rw [if_pos rfl]; simp
  · rfl
/-- What holds at the head of the read. -/
def RdJ (M : Mem) (xs : List Int) (n : Nat) (a o : Value) (M' : Mem) : Prop :=
  ∃ ys out, n = ys.length ∧ Sl M' a 1 (ints .u8 ys) ∧ ys.length ≤ xs.length ∧ (∀ x ∈ ys, 0 ≤ x ∧ x ≤ 255) ∧ (∀ b ∈ blkOf a, b < M.length) ∧ Fr M M' [] ∧ New M M' o 2 (pxs out) ∧ out.length + ys.length ≤ xs.length ∧ nlR xs = nlJoin out (nlR ys)
theorem nlRead_err : ∀ (f : Nat) (xs : List Int), (nlRead f xs).2 ≠ 0 → (nlRead f xs).1 = []
  | 0, _, h => absurd rfl h
  | f + 1, xs, h => by
    unfold nlRead at h ⊢
    split at h
    · exact absurd rfl h
    · rename_i h1
      rw [if_neg h1]
      split at h
      · rename_i h2; rw [if_pos h2]
      · rename_i h2
        rw [if_neg h2]
        split at h
        · rename_i h3; rw [if_pos h3]
        · rename_i h3
          rw [if_neg h3]
          split at h
          · exact absurd rfl h
          · rename_i h4; rw [if_neg h4]
theorem nlJoin_nil (xs : List Int) : nlR xs = nlJoin [] (nlR xs) := by
  unfold nlJoin
  split
  · rename_i h; rw [List.nil_append, ← h]
  · rename_i h; exact Prod.ext (nlRead_err _ _ h) rfl
theorem nlread_spec (v : Value) (xs : List Int) (M : Mem) (hv : Sl M v 1 (ints .u8 xs)) (hx : xs.length ≤ 100000) (hb : ∀ x ∈ xs, 0 ≤ x ∧ x ≤ 255) : CallA Try.prog 88 [v] M fun r M' => Fr M M' [] ∧ ∃ w, r = .tuple ⟨[w, .int .i64 (nlR xs).2]⟩ ∧ Sl M' w 2 (pxs (nlR xs).1) ∧ ∀ b ∈ blkOf w, M.length ≤ b := by
  (refine CallA.of_body Try.func88 rfl (by rfl) ?_; simp only [Try.ntmps88, List.length_cons, List.length_nil, List.replicate, List.cons_append, List.nil_append, Nat.reduceSub, Nat.reduceAdd])
  (repeat (first | refine st ?_ | refine σa ?_ | refine d88_Nl4 ?_ | ((first | refine σb ?_ | refine σc ?_); simp (disch := omega) only [push_cast, ↓reduceIte, reduceCtorEq, ν1, ν2, ν3, ν4, ν5, ζ1, ζ2, ζ3, ζ4, ζ5])))
  refine AW.scopeK 0 9 59 (fun n g M' => RdJ M xs n (g 0) (g 4) M') (fun _ _ => False) ?_ ?_ ?_
  · rintro n g M1 ⟨ys, out, rfl, hw, hyl, hyb, hblk, hF, hN, hol, hP⟩
    show AW _ (.seq _ _) _ _ _
    generalize h0 : g 0 = w at *
    generalize h4 : g 4 = o at *
    simp (disch := omega) only [push_cast, ↓reduceIte, reduceCtorEq, Nat.reduceAdd, Nat.reduceMul, Nat.reduceLeDiff, Nat.reduceLT, Nat.reduceSub, Int.reduceNe, Int.reduceEq, Int.reduceLE, Int.reduceLT, Int.reduceToNat, lstOf_zero, lstOf_succ, h0, h4]
    have hs := hw.isSl
    have hn := hw.lnI
    have hl0 := fun h1 => hw.ld0 (P := Try.prog) (ty := 5) (by kernel_rfl) h1
    by_cases hne : ys = []
    · subst hne
      have d0 : decide ((([] : List Int).length : Int) = 0) = true := rfl
      (repeat (first | refine st ?_ | refine σa ?_ | refine d88_Nl4 ?_ | ((first | refine σb ?_ | refine σc ?_); simp (disch := omega) only [push_cast, ↓reduceIte, reduceCtorEq, ν1, ν2, ν3, ν4, ν5, ζ1, ζ2, ζ3, ζ4, ζ5, hs, hn, d0])))
      ((first | refine retA.ret (by rfl) ?_ | refine retA.normal (by rfl) ?_); simp (disch := omega) only [push_cast, ↓reduceIte, reduceCtorEq, Nat.reduceAdd, Nat.reduceMul, Nat.reduceLeDiff, Nat.reduceLT, Nat.reduceSub, Int.reduceNe, Int.reduceEq, Int.reduceLE, Int.reduceLT, Int.reduceToNat])
      have e : nlR xs = (out, 0) := by rw [hP]; simp [nlJoin, nlR_nil]
      rw [e]
      exact ⟨hF, o, rfl, hN.sl, hN.blk⟩
    have hp := List.length_pos_iff.2 hne
    have d0 : decide ((ys.length : Int) = 0) = false := decide_eq_false (by omega)
    have b0 := getD_byte hyb 0
    obtain ⟨y, hy⟩ : ∃ y, y = ys.getD 0 0 := ⟨_, rfl⟩
    rw [← hy] at b0
    have b01 := b0.1
    have b02 := b0.2
    have wy : IntKind.i64.wrap y = y := w_i64 (by omega) (by omega)
    rw [← hy] at hl0
    by_cases c5 : 32 < y
    · have d5 : decide (y > 32) = true := decide_eq_true c5
      (repeat (first | refine st ?_ | refine σa ?_ | refine d88_Nl4 ?_ | ((first | refine σb ?_ | refine σc ?_); simp (disch := omega) only [push_cast, ↓reduceIte, reduceCtorEq, ν1, ν2, ν3, ν4, ν5, ζ1, ζ2, ζ3, ζ4, ζ5, hs, hn, d0, hl0, wy, d5, buildE, memE, boxE])))
      ((first | refine retA.ret (by rfl) ?_ | refine retA.normal (by rfl) ?_); simp (disch := omega) only [push_cast, ↓reduceIte, reduceCtorEq, Nat.reduceAdd, Nat.reduceMul, Nat.reduceLeDiff, Nat.reduceLT, Nat.reduceSub, Int.reduceNe, Int.reduceEq, Int.reduceLE, Int.reduceLT, Int.reduceToNat])
      have e : nlR xs = ([], 5) := by rw [hP, nlR_bad5 hne (by omega)]; simp [nlJoin]
      rw [e]
      exact ⟨hF.tr (Fr.push _ _), .slice none 0 0, rfl, Sl.nil _ (by omega), fun b h => by cases h⟩
    have d5 : decide (y > 32) = false := decide_eq_false c5
    (repeat (first | refine st ?_ | refine σa ?_ | refine d88_Nl4 ?_ | ((first | refine σb ?_ | refine σc ?_); simp (disch := omega) only [push_cast, ↓reduceIte, reduceCtorEq, ν1, ν2, ν3, ν4, ν5, ζ1, ζ2, ζ3, ζ4, ζ5, hs, hn, d0, hl0, wy, d5, buildE, memE, boxE])))
    refine (nbytes_spec y _ (by omega)).mono ?_
    rintro r M2 ⟨rfl, rfl⟩
    obtain ⟨nb, hnb⟩ : ∃ nb, nb = nbytes y := ⟨_, rfl⟩
    have nb4 := nbytes_le (n := y) (by omega)
    rw [← hnb] at nb4 ⊢
    have wn : IntKind.i64.wrap (1 + (nb : Int)) = 1 + nb := w_i64 (by omega) (by omega)
    by_cases c3 : ys.length < 1 + nb
    · have d3 : decide ((ys.length : Int) < 1 + nb) = true := decide_eq_true (by omega)
      (repeat (first | refine st ?_ | refine σa ?_ | refine d88_Nl4 ?_ | ((first | refine σb ?_ | refine σc ?_); simp (disch := omega) only [push_cast, ↓reduceIte, reduceCtorEq, ν1, ν2, ν3, ν4, ν5, ζ1, ζ2, ζ3, ζ4, ζ5, hs, hn, wn, d3])))
      ((first | refine retA.ret (by rfl) ?_ | refine retA.normal (by rfl) ?_); simp (disch := omega) only [push_cast, ↓reduceIte, reduceCtorEq, Nat.reduceAdd, Nat.reduceMul, Nat.reduceLeDiff, Nat.reduceLT, Nat.reduceSub, Int.reduceNe, Int.reduceEq, Int.reduceLE, Int.reduceLT, Int.reduceToNat])
      have e : nlR xs = ([], 3) := by rw [hP, nlR_bad3 hne (by omega) (by rw [← hy, ← hnb]; exact c3)]; simp [nlJoin]
      rw [e]
      exact ⟨hF.tr (Fr.push _ _), .slice none 0 0, rfl, Sl.nil _ (by omega), fun b h => by cases h⟩
    have d3 : decide ((ys.length : Int) < 1 + nb) = false := decide_eq_false (by omega)
    obtain ⟨M2, hM2⟩ : ∃ M2, M2 = M1 ++ [Blk.box [.int .u32 0, .int .i64 y]] := ⟨_, rfl⟩
    have P2 := Fr.push M1 (.box [.int .u32 0, .int .i64 y])
    have A2 := At.push M1 (.box [.int .u32 0, .int .i64 y])
    rw [← hM2] at P2 A2 ⊢
    have hw2 := hw.keep P2 (by simp)
    obtain ⟨w1, hw1', p1⟩ := hw.pcMid 1 (1 + nb) (by omega) (by omega)
    have hw1 : aslice w 1 (some (.int .i64 1)) (some (.int .i64 (1 + (nb : Int)))) none = some w1 := hw1'
    have hsz := hw2.sz
    have hs1 := p1.sl.isSl
    have hn1 := p1.sl.lnI
    rw [Nat.add_sub_cancel_left] at hn1
    have hl1 : ((ys.drop 1).take nb).length = nb := by rw [List.length_take, List.length_drop]; omega
    rw [hl1] at hn1
    (repeat (first | refine st ?_ | refine σa ?_ | refine d88_Nl4 ?_ | ((first | refine σb ?_ | refine σc ?_); simp (disch := omega) only [push_cast, ↓reduceIte, reduceCtorEq, ν1, ν2, ν3, ν4, ν5, ζ1, ζ2, ζ3, ζ4, ζ5, hs, hn, wn, d3, hw1, hsz, hs1, hn1, Option.map_none, memE, boxE])))
    obtain ⟨zs, hzs⟩ : ∃ zs, zs = ys.drop 1 := ⟨_, rfl⟩
    rw [Nat.add_sub_cancel_left, ← hzs] at p1
    rw [← hzs] at hl1
    have hzb : ∀ x ∈ zs, 0 ≤ x ∧ x ≤ 255 := fun x h => hyb x (List.mem_of_mem_drop (by rw [hzs] at h; exact h))
    refine AW.loopF [7, 8, 34, 35, 36, 37, 38, 39, 40, 41, 42, 43, 44, 45, 46, 47, 48, 49] (fun n g M' => ∃ i : Nat, g 34 = .int .i64 i ∧ i + n = nb ∧ Fr M1 M' [] ∧ At M' M1.length (.box [.int .u32 (addrOf zs i), .int .i64 y])) nb ?_ ?_
    · exact ⟨0, rfl, by omega, P2, by simpa [addrOf] using A2⟩
    rintro n g M3 ⟨i, h34, hi, F3, A3⟩
    simp (disch := omega) only [push_cast, ↓reduceIte, reduceCtorEq, Nat.reduceAdd, Nat.reduceMul, Nat.reduceLeDiff, Nat.reduceLT, Nat.reduceSub, Int.reduceNe, Int.reduceEq, Int.reduceLE, Int.reduceLT, Int.reduceToNat, h34]
    (repeat (first | refine st ?_ | refine σa ?_ | refine d88_Nl4 ?_ | ((first | refine σb ?_ | refine σc ?_); simp (disch := omega) only [push_cast, ↓reduceIte, reduceCtorEq, ν1, ν2, ν3, ν4, ν5, ζ1, ζ2, ζ3, ζ4, ζ5])))
    ((first | refine AL.gu rfl (fun hlt => ?_) (fun hlt => ?_) | refine AW.condS rfl rfl (fun hlt => ?_) (fun hlt => ?_)) <;> (try (have hlt' := hlt; simp only [Bool.not_eq_true', Bool.not_eq_false', Bool.not_true, Bool.not_false, decide_eq_true_eq, decide_eq_false_iff_not, Classical.not_not, Int.not_lt, Int.not_le, gt_iff_lt, ge_iff_le, beq_iff_eq] at hlt')))
    · have hin : i < nb := by omega
      have hp3 := p1.sl.keep F3 (by simp)
      have hs3 := hp3.isSl
      have hn3 := hp3.lnI
      rw [hl1] at hn3
      have hl3 := hp3.ldN (P := Try.prog) (ty := 5) (by kernel_rfl) (i := i) (by rw [hl1]; exact hin)
      have gd : (zs.take nb).getD i 0 = zs.getD i 0 := by simp [List.getD_eq_getElem?_getD, List.getElem?_take, hin]
      rw [gd] at hl3
      have bi := getD_byte hzb i
      obtain ⟨z, hz⟩ : ∃ z, z = zs.getD i 0 := ⟨_, rfl⟩
      rw [← hz] at bi hl3
      have bi1 := bi.1
      have bi2 := bi.2
      obtain ⟨j, hj⟩ : ∃ j, j = 24 - 8 * i := ⟨_, rfl⟩
      have wi8 : IntKind.i64.wrap (8 * (i : Int)) = 8 * i := w_i64 (by omega) (by omega)
      have sj : (24 : Int) - 8 * i = j := by omega
      have wj : IntKind.i64.wrap (j : Int) = j := w_i64 (by omega) (by omega)
      have mj : min j IntKind.u32.bits = j := Nat.min_eq_left (by show j ≤ 32; omega)
      have pj : (2 : Int) ^ j ≤ 16777216 := by
        have : j = 24 ∨ j = 16 ∨ j = 8 ∨ j = 0 := by omega
        rcases this with rfl | rfl | rfl | rfl <;> decide
      have pj0 : (0 : Int) < 2 ^ j := Int.pow_pos (by decide)
      have zp0 : 0 ≤ z * 2 ^ j := Int.mul_nonneg (by omega) (by omega)
      have zp1 : z * 2 ^ j ≤ 255 * 2 ^ j := Int.mul_le_mul_of_nonneg_right bi2 (by omega)
      have wz : IntKind.u32.wrap z = z := w_u32 (by omega) (by omega)
      have wzp : IntKind.u32.wrap (z * 2 ^ j) = z * 2 ^ j := w_u32 (by omega) (by omega)
      have ps : (2 : Int) ^ (24 - 8 * i + 8) = 2 ^ j * 256 := by rw [← hj, Int.pow_add]; rfl
      have hsu := addrOf_succ (zs := zs) (i := i) (by omega)
      rw [← hz, ← hj] at hsu
      have hmo := addrOf_mod (zs := zs) (i := i) (by omega)
      have hlt := addrOf_lt (zs := zs) (i + 1) hzb
      have hle := addrOf_lt (zs := zs) i hzb
      have hor := or32 (24 - 8 * i + 8) (addrOf zs i) (z * 2 ^ j) hmo (by omega) zp0 (by rw [ps]; omega) (by omega)
      rw [← hsu] at hor
      (repeat (first | refine st ?_ | refine σa ?_ | refine d88_Nl4 ?_ | ((first | refine σb ?_ | refine σc ?_); simp (disch := omega) only [push_cast, ↓reduceIte, reduceCtorEq, ν1, ν2, ν3, ν4, ν5, ζ1, ζ2, ζ3, ζ4, ζ5, hs3, hn3, hl3, A3.ld, wi8, sj, wj, mj, wz, wzp, hor, Int.toNat_natCast, memE, boxE])))
      refine ⟨_, A3.get, rfl, by simp, ?_⟩
      (repeat (first | refine st ?_ | refine σa ?_ | refine d88_Nl4 ?_ | ((first | refine σb ?_ | refine σc ?_); simp (disch := omega) only [push_cast, ↓reduceIte, reduceCtorEq, ν1, ν2, ν3, ν4, ν5, ζ1, ζ2, ζ3, ζ4, ζ5])))
      refine ⟨rfl, n - 1, by omega, i + 1, by simp (disch := omega) only [push_cast, ↓reduceIte, reduceCtorEq, Nat.reduceAdd, Nat.reduceMul, Nat.reduceLeDiff, Nat.reduceLT, Nat.reduceSub, Int.reduceNe, Int.reduceEq, Int.reduceLE, Int.reduceLT, Int.reduceToNat, w_i64], by omega, ?_, A3.set _⟩
      exact (F3.trans (Fr.set M3 _ _)).cut fun b hb hlt => by simp at hb; omega
    · obtain rfl : i = nb := by omega
      (repeat (first | refine st ?_ | refine σa ?_ | refine d88_Nl4 ?_ | ((first | refine σb ?_ | refine σc ?_); simp (disch := omega) only [push_cast, ↓reduceIte, reduceCtorEq, ν1, ν2, ν3, ν4, ν5, ζ1, ζ2, ζ3, ζ4, ζ5, A3.ld, buildE, memE, boxE])))
      refine (gmask_spec (addrOf zs i, y) _ (by have := addrOf_lt i hzb; simp only; omega)).mono ?_
      rintro r M4 ⟨F4, rfl⟩
      obtain ⟨q, hq⟩ : ∃ q, q = maskP (addrOf zs i, y) := ⟨_, rfl⟩
      rw [← hq]
      (repeat (first | refine st ?_ | refine σa ?_ | refine d88_Nl4 ?_ | ((first | refine σb ?_ | refine σc ?_); simp (disch := omega) only [push_cast, ↓reduceIte, reduceCtorEq, ν1, ν2, ν3, ν4, ν5, ζ1, ζ2, ζ3, ζ4, ζ5, buildE, memE, boxE])))
      have FM4 : Fr M1 M4 [] := F3.tr F4
      have P5 := Fr.push M4 (.row true 2 [.int .u32 q.1, .int .i64 q.2])
      have r5 := New.row M4 (s := 2) (n := 1) (cs := pxs [q]) (by omega) rfl rfl (by decide)
      have N5 : New M _ o 2 (pxs out) := hN.keep (FM4.tr P5) (by simp)
      have hol2 := pxs_length out
      have hol3 := pxs_length [q]
      refine appK.elems (P := Try.prog) (e := 32) (s := 2) (bt := 16) (z := [.int .u32 0, .int .i64 0]) (by kernel_rfl) (by kernel_rfl) (by kernel_rfl) rfl (by kernel_rfl) (by decide) N5.1 r5.sl (by rw [hol2, hol3]; simp; omega) ?_
      intro o2 M6 hN6 hF6
      have hbo := hN.1.sl.blks
      have FM6 : Fr M M6 [] := ((hF.tr FM4).tr P5).new N5 hF6
      have N6 : New M M6 o2 2 (pxs (out ++ [q])) := by
        have := hN6.after ((hF.tr FM4).tr P5)
        rwa [← pxs_append] at this
      obtain ⟨w2, hw2', p2⟩ := hw.pcFrom (1 + i) (by omega)
      have hw2a : aslice w 1 (some (.int .i64 (1 + (i : Int)))) none none = some w2 := hw2'
      have hno : ∀ b ∈ blkOf w, b ∉ blkOf o := fun b h h' => by have := hblk b h; have := hN.blk b h'; omega
      have hw6 := (hw.keep (FM4.tr P5) (by simp)).keep hF6 hno
      have hsz6 := hw6.sz
      (repeat (first | refine st ?_ | refine σa ?_ | refine d88_Nl4 ?_ | ((first | refine σb ?_ | refine σc ?_); simp (disch := omega) only [push_cast, ↓reduceIte, reduceCtorEq, ν1, ν2, ν3, ν4, ν5, ζ1, ζ2, ζ3, ζ4, ζ5, hs, hn, wn, hsz6, hw2a, Option.map_none])))
      refine scopeA.goto rfl (ys.drop (1 + i)).length (fun k hk => by cases hk; rw [List.length_drop]; omega) ⟨rfl, .inl ⟨rfl, ys.drop (1 + i), out ++ [q], rfl, ((p2.keep (FM4.tr P5) (by simp)).keep hF6 hno).sl, by rw [List.length_drop]; omega, fun x h => hyb x (List.mem_of_mem_drop h), fun b hb => hblk b (p2.blk b hb), FM6, N6, by rw [List.length_append, List.length_drop, List.length_singleton]; omega, ?_⟩⟩
      rw [hP, nlR_good (out := out) hne (by rw [← hy]; exact c5) (by rw [← hy, ← hnb]; exact c3), ← hy, ← hnb, ← hzs, ← hq]
  · rintro n g M1 h; exact h.elim
  · intro hp
    (repeat (first | refine st ?_ | refine σl ?_ | refine d88_Nl4 ?_ | ((first | refine σb ?_ | refine σc ?_); simp (disch := omega) only [push_cast, ↓reduceIte, reduceCtorEq, ν1, ν2, ν3, ν4, ν5, ζ1, ζ2, ζ3, ζ4, ζ5])))
    refine AW.label ?_
    refine thenA.normal ?_
    refine hp xs.length _ M rfl ?_
    exact ⟨xs, [], rfl, hv, Nat.le_refl _, hb, hv.blks, Fr.refl M, New.nil M (by omega), by simp, nlJoin_nil xs⟩

end Go.Proofs.Ytbdejnnbpdgjlaa.Ax

namespace Go.Proofs.Ytbdejnnbpdgjlaa.Ax
open Go Go.RowKit
open Nat renaming reduceAdd → ν1, reduceMul → ν2, reduceLeDiff → ν3, reduceLT → ν4, reduceSub → ν5
open Int renaming reduceNe → ζ1, reduceEq → ζ2, reduceLE → ζ3, reduceLT → ζ4, reduceToNat → ζ5
set_option linter.unusedVariables false
set_option linter.unusedSimpArgs false
set_option maxRecDepth 100000
set_option maxHeartbeats 20000000
attribute [local irreducible] thenA blockA scopeA retA AL AW AD ADL AH clrK CallA apure aload bload appK ptrK fnK ares szOk planOk okOps
end Go.Proofs.Ytbdejnnbpdgjlaa.Ax

namespace Go.Proofs.Ytbdejnnbpdgjlaa.Ax
open Go Go.RowKit
open Nat renaming reduceAdd → ν1, reduceMul → ν2, reduceLeDiff → ν3, reduceLT → ν4, reduceSub → ν5
open Int renaming reduceNe → ζ1, reduceEq → ζ2, reduceLE → ζ3, reduceLT → ζ4, reduceToNat → ζ5
set_option linter.unusedVariables false
set_option linter.unusedSimpArgs false
set_option maxRecDepth 100000
set_option maxHeartbeats 20000000
attribute [local irreducible] thenA blockA scopeA retA AL AW AD ADL AH clrK CallA apure aload bload appK ptrK fnK ares szOk planOk okOps
theorem d95_Ar2 {g n : Prop} (k : n) (h : n → g := by first | exact AW.dr (id := 6) (by rfl) [0, 1, 2, 3, 4, 5, 6, 7, 8] (by kernel_rfl) (by kernel_rfl)) : g := h k
theorem nums_spec (v w : Value) (xs ys : List Int) (M : Mem) (hv : Sl M v 1 (ints .u32 xs)) (hw : Sl M w 1 (ints .u32 ys)) (hl : xs.length ≤ 1000000000) : CallA Try.prog 95 [v, w] M fun r M' => M' = M ∧ r = .bool (decide (xs = ys)) := by
  have hs := hv.isSl
  have hn := hv.lnI
  have hs2 := hw.isSl
  have hn2 := hw.lnI
  (refine CallA.of_body Try.func95 rfl (by rfl) ?_; simp only [Try.ntmps95, List.length_cons, List.length_nil, List.replicate, List.cons_append, List.nil_append, Nat.reduceSub, Nat.reduceAdd])
  by_cases hlen : xs.length = ys.length
  · have d0 : decide ((xs.length : Int) = ys.length) = true := decide_eq_true (by omega)
    (repeat (first | refine st ?_ | refine σa ?_ | refine d95_Ar2 ?_ | ((first | refine σb ?_ | refine σc ?_); simp (disch := omega) only [push_cast, ↓reduceIte, reduceCtorEq, ν1, ν2, ν3, ν4, ν5, ζ1, ζ2, ζ3, ζ4, ζ5, hs, hn, hs2, hn2, d0, Bool.not_true])))
    refine AW.loopF [4, 5, 13, 14, 15, 16, 17, 18, 19, 20, 21, 22, 23, 24, 25] (fun m g M' => ∃ i : Nat, g 13 = .int .i64 i ∧ i + m = xs.length ∧ M' = M ∧ ∀ q, q < i → xs.getD q 0 = ys.getD q 0) xs.length ?_ ?_
    · exact ⟨0, rfl, by omega, rfl, fun q h => by omega⟩
    rintro m g M1 ⟨i, h13, hi, rfl, he⟩
    simp (disch := omega) only [push_cast, ↓reduceIte, reduceCtorEq, Nat.reduceAdd, Nat.reduceMul, Nat.reduceLeDiff, Nat.reduceLT, Nat.reduceSub, Int.reduceNe, Int.reduceEq, Int.reduceLE, Int.reduceLT, Int.reduceToNat, h13]
    (repeat (first | refine st ?_ | refine σa ?_ | refine d95_Ar2 ?_ | ((first | refine σb ?_ | refine σc ?_); simp (disch := omega) only [push_cast, ↓reduceIte, reduceCtorEq, ν1, ν2, ν3, ν4, ν5, ζ1, ζ2, ζ3, ζ4, ζ5])))
    ((first | refine AL.gu rfl (fun hlt => ?_) (fun hlt => ?_) | refine AW.condS rfl rfl (fun hlt => ?_) (fun hlt => ?_)) <;> (try (have hlt' := hlt; simp only [Bool.not_eq_true', Bool.not_eq_false', Bool.not_true, Bool.not_false, decide_eq_true_eq, decide_eq_false_iff_not, Classical.not_not, Int.not_lt, Int.not_le, gt_iff_lt, ge_iff_le, beq_iff_eq] at hlt')))
    · have l1 := hv.ldN (P := Try.prog) (ty := 30) (i := i) (by kernel_rfl) (by omega)
      have l2 := hw.ldN (P := Try.prog) (ty := 30) (i := i) (by kernel_rfl) (by omega)
      (repeat (first | refine st ?_ | refine σa ?_ | refine d95_Ar2 ?_ | ((first | refine σb ?_ | refine σc ?_); simp (disch := omega) only [push_cast, ↓reduceIte, reduceCtorEq, ν1, ν2, ν3, ν4, ν5, ζ1, ζ2, ζ3, ζ4, ζ5, hs, hn, hs2, hn2, l1, l2, Int.toNat_natCast])))
      ((first | refine AL.gu rfl (fun hne => ?_) (fun hne => ?_) | refine AW.condS rfl rfl (fun hne => ?_) (fun hne => ?_)) <;> (try (have hne' := hne; simp only [Bool.not_eq_true', Bool.not_eq_false', Bool.not_true, Bool.not_false, decide_eq_true_eq, decide_eq_false_iff_not, Classical.not_not, Int.not_lt, Int.not_le, gt_iff_lt, ge_iff_le, beq_iff_eq] at hne')))
      · (repeat (first | refine st ?_ | refine σa ?_ | refine d95_Ar2 ?_ | ((first | refine σb ?_ | refine σc ?_); simp (disch := omega) only [push_cast, ↓reduceIte, reduceCtorEq, ν1, ν2, ν3, ν4, ν5, ζ1, ζ2, ζ3, ζ4, ζ5])))
        ((first | refine retA.ret (by rfl) ?_ | refine retA.normal (by rfl) ?_); simp (disch := omega) only [push_cast, ↓reduceIte, reduceCtorEq, Nat.reduceAdd, Nat.reduceMul, Nat.reduceLeDiff, Nat.reduceLT, Nat.reduceSub, Int.reduceNe, Int.reduceEq, Int.reduceLE, Int.reduceLT, Int.reduceToNat])
        have hx : xs ≠ ys := fun e => hne' (by rw [e])
        simp [hx]
      · (repeat (first | refine st ?_ | refine σa ?_ | refine d95_Ar2 ?_ | ((first | refine σb ?_ | refine σc ?_); simp (disch := omega) only [push_cast, ↓reduceIte, reduceCtorEq, ν1, ν2, ν3, ν4, ν5, ζ1, ζ2, ζ3, ζ4, ζ5, w_i64])))
        refine ⟨rfl, m - 1, by omega, i + 1, rfl, by omega, rfl, fun q hq => ?_⟩
        by_cases e : q = i
        · rw [e]; exact hne'
        · exact he q (by omega)
    · (repeat (first | refine st ?_ | refine σa ?_ | refine d95_Ar2 ?_ | ((first | refine σb ?_ | refine σc ?_); simp (disch := omega) only [push_cast, ↓reduceIte, reduceCtorEq, ν1, ν2, ν3, ν4, ν5, ζ1, ζ2, ζ3, ζ4, ζ5])))
      ((first | refine retA.ret (by rfl) ?_ | refine retA.normal (by rfl) ?_); simp (disch := omega) only [push_cast, ↓reduceIte, reduceCtorEq, Nat.reduceAdd, Nat.reduceMul, Nat.reduceLeDiff, Nat.reduceLT, Nat.reduceSub, Int.reduceNe, Int.reduceEq, Int.reduceLE, Int.reduceLT, Int.reduceToNat])
      have hx : xs = ys := by
        apply List.ext_getElem hlen
        intro q h1 h2
        have := he q (by omega)
        rwa [getD_lt h1, getD_lt h2] at this
      simp [hx]
  · have d0 : decide ((xs.length : Int) = ys.length) = false := decide_eq_false (by omega)
    (repeat (first | refine st ?_ | refine σa ?_ | refine d95_Ar2 ?_ | ((first | refine σb ?_ | refine σc ?_); simp (disch := omega) only [push_cast, ↓reduceIte, reduceCtorEq, ν1, ν2, ν3, ν4, ν5, ζ1, ζ2, ζ3, ζ4, ζ5, hs, hn, hs2, hn2, d0, Bool.not_false])))
    ((first | refine retA.ret (by rfl) ?_ | refine retA.normal (by rfl) ?_); simp (disch := omega) only [push_cast, ↓reduceIte, reduceCtorEq, Nat.reduceAdd, Nat.reduceMul, Nat.reduceLeDiff, Nat.reduceLT, Nat.reduceSub, Int.reduceNe, Int.reduceEq, Int.reduceLE, Int.reduceLT, Int.reduceToNat])
    have hx : xs ≠ ys := fun e => hlen (by rw [e])
    simp [hx]
end Go.Proofs.Ytbdejnnbpdgjlaa.Ax

namespace Go.Proofs.Ytbdejnnbpdgjlaa.Ax
open Go Go.RowKit
open Nat renaming reduceAdd → ν1, reduceMul → ν2, reduceLeDiff → ν3, reduceLT → ν4, reduceSub → ν5
open Int renaming reduceNe → ζ1, reduceEq → ζ2, reduceLE → ζ3, reduceLT → ζ4, reduceToNat → ζ5
set_option linter.unusedVariables false
set_option linter.unusedSimpArgs false
set_option maxRecDepth 100000
set_option maxHeartbeats 20000000
attribute [local irreducible] thenA blockA scopeA retA AL AW AD ADL AH clrK CallA apure aload bload appK ptrK fnK ares szOk planOk okOps
end Go.Proofs.Ytbdejnnbpdgjlaa.Ax

namespace Go.Proofs.Ytbdejnnbpdgjlaa.Ax
open Go Go.RowKit
open Nat renaming reduceAdd → ν1, reduceMul → ν2, reduceLeDiff → ν3, reduceLT → ν4, reduceSub → ν5
open Int renaming reduceNe → ζ1, reduceEq → ζ2, reduceLE → ζ3, reduceLT → ζ4, reduceToNat → ζ5
set_option linter.unusedVariables false
set_option linter.unusedSimpArgs false
set_option maxRecDepth 100000
set_option maxHeartbeats 20000000
attribute [local irreducible] thenA blockA scopeA retA AL AW AD ADL AH clrK CallA apure aload bload appK ptrK fnK ares szOk planOk okOps
end Go.Proofs.Ytbdejnnbpdgjlaa.Ax

namespace Go.Proofs.Ytbdejnnbpdgjlaa.Ax
open Go Go.RowKit
open Nat renaming reduceAdd → ν1, reduceMul → ν2, reduceLeDiff → ν3, reduceLT → ν4, reduceSub → ν5
open Int renaming reduceNe → ζ1, reduceEq → ζ2, reduceLE → ζ3, reduceLT → ζ4, reduceToNat → ζ5
set_option linter.unusedVariables false
set_option linter.unusedSimpArgs false
set_option maxRecDepth 100000
set_option maxHeartbeats 20000000
attribute [local irreducible] thenA blockA scopeA retA AL AW AD ADL AH clrK CallA apure aload bload appK ptrK fnK ares szOk planOk okOps
def sameP (a b : AV) : Bool := decide (a.origin = b.origin) && (decide (a.hop = b.hop) && (decide (a.med = b.med) && (decide (a.pref = b.pref) && ((a.hasMed == b.hasMed) && ((a.hasPref == b.hasPref) && (decide (a.path = b.path) && decide (a.comms = b.comms)))))))
theorem same_spec (v w : Value) (a b : AV) (M : Mem) (ha : AVval M v a) (hb : AVval M w b) (h1 : a.path.length ≤ 1000000) (h2 : a.comms.length ≤ 1000000) : CallA Try.prog 60 [v, w] M fun r M' => Fr M M' [] ∧ r = .bool (sameP a b) := by
  obtain ⟨p, c, rfl, hp, hc⟩ := ha
  obtain ⟨q, dd, rfl, hq, hd⟩ := hb
  have l2 : ∀ (ty : TypeId) (X Y : Blk) (j : Nat), aload Try.prog ty (M ++ [X] ++ [Y]) M.length j = bload Try.prog ty X.cells j := fun ty X Y j => ((At.push M X).keep (Fr.push _ Y) (by simp)).ld
  have l3 : ∀ (ty : TypeId) (X Y : Blk) (j : Nat), aload Try.prog ty (M ++ [X] ++ [Y]) (M ++ [X]).length j = bload Try.prog ty Y.cells j := fun ty X Y j => (At.push (M ++ [X]) Y).ld
  have hfr : ∀ X Y : Blk, Fr M (M ++ [X] ++ [Y]) [] := fun X Y => (Fr.push M X).tr (Fr.push _ Y)
  have beq : ∀ x y : Bool, abin2 Try.prog .eql 4 (.bool x) (.bool y) = some (.bool (x == y)) := fun x y => by
    have hu : Try.prog.underlying 4 = some .bool := by kernel_rfl
    simp only [abin2, isShift, hu]
  (refine CallA.of_body Try.func60 rfl (by rfl) ?_; simp only [Try.ntmps60, List.length_cons, List.length_nil, List.replicate, List.cons_append, List.nil_append, Nat.reduceSub, Nat.reduceAdd])
  by_cases horigin : a.origin = b.origin
  rotate_left
  · have d : decide (a.origin = b.origin) = false := decide_eq_false horigin
    (repeat (first | refine st ?_ | refine σa ?_ | (refine σb ?_; simp (disch := omega) only [push_cast, ↓reduceIte, reduceCtorEq, ν1, ν2, ν3, ν4, ν5, ζ1, ζ2, ζ3, ζ4, ζ5, l2, l3, d, beq])))
    ((first | refine retA.ret (by rfl) ?_ | refine retA.normal (by rfl) ?_); simp (disch := omega) only [push_cast, ↓reduceIte, reduceCtorEq, Nat.reduceAdd, Nat.reduceMul, Nat.reduceLeDiff, Nat.reduceLT, Nat.reduceSub, Int.reduceNe, Int.reduceEq, Int.reduceLE, Int.reduceLT, Int.reduceToNat])
    exact ⟨hfr _ _, by simp [sameP, horigin]⟩
  have dorigin : decide (b.origin = b.origin) = true := decide_eq_true rfl
  by_cases hhop : a.hop = b.hop
  rotate_left
  · have d : decide (a.hop = b.hop) = false := decide_eq_false hhop
    (repeat (first | refine st ?_ | refine σa ?_ | (refine σb ?_; simp (disch := omega) only [push_cast, ↓reduceIte, reduceCtorEq, ν1, ν2, ν3, ν4, ν5, ζ1, ζ2, ζ3, ζ4, ζ5, l2, l3, horigin, dorigin, d, beq])))
    ((first | refine retA.ret (by rfl) ?_ | refine retA.normal (by rfl) ?_); simp (disch := omega) only [push_cast, ↓reduceIte, reduceCtorEq, Nat.reduceAdd, Nat.reduceMul, Nat.reduceLeDiff, Nat.reduceLT, Nat.reduceSub, Int.reduceNe, Int.reduceEq, Int.reduceLE, Int.reduceLT, Int.reduceToNat])
    exact ⟨hfr _ _, by simp [sameP, hhop]⟩
  have dhop : decide (b.hop = b.hop) = true := decide_eq_true rfl
  by_cases hmed : a.med = b.med
  rotate_left
  · have d : decide (a.med = b.med) = false := decide_eq_false hmed
    (repeat (first | refine st ?_ | refine σa ?_ | (refine σb ?_; simp (disch := omega) only [push_cast, ↓reduceIte, reduceCtorEq, ν1, ν2, ν3, ν4, ν5, ζ1, ζ2, ζ3, ζ4, ζ5, l2, l3, horigin, dorigin, hhop, dhop, d, beq])))
    ((first | refine retA.ret (by rfl) ?_ | refine retA.normal (by rfl) ?_); simp (disch := omega) only [push_cast, ↓reduceIte, reduceCtorEq, Nat.reduceAdd, Nat.reduceMul, Nat.reduceLeDiff, Nat.reduceLT, Nat.reduceSub, Int.reduceNe, Int.reduceEq, Int.reduceLE, Int.reduceLT, Int.reduceToNat])
    exact ⟨hfr _ _, by simp [sameP, hmed]⟩
  have dmed : decide (b.med = b.med) = true := decide_eq_true rfl
  by_cases hpref : a.pref = b.pref
  rotate_left
  · have d : decide (a.pref = b.pref) = false := decide_eq_false hpref
    (repeat (first | refine st ?_ | refine σa ?_ | (refine σb ?_; simp (disch := omega) only [push_cast, ↓reduceIte, reduceCtorEq, ν1, ν2, ν3, ν4, ν5, ζ1, ζ2, ζ3, ζ4, ζ5, l2, l3, horigin, dorigin, hhop, dhop, hmed, dmed, d, beq])))
    ((first | refine retA.ret (by rfl) ?_ | refine retA.normal (by rfl) ?_); simp (disch := omega) only [push_cast, ↓reduceIte, reduceCtorEq, Nat.reduceAdd, Nat.reduceMul, Nat.reduceLeDiff, Nat.reduceLT, Nat.reduceSub, Int.reduceNe, Int.reduceEq, Int.reduceLE, Int.reduceLT, Int.reduceToNat])
    exact ⟨hfr _ _, by simp [sameP, hpref]⟩
  have dpref : decide (b.pref = b.pref) = true := decide_eq_true rfl
  by_cases hm : (a.hasMed == b.hasMed) = true
  rotate_left
  · have hm' : (a.hasMed == b.hasMed) = false := by simpa using hm
    (repeat (first | refine st ?_ | refine σa ?_ | (refine σb ?_; simp (disch := omega) only [push_cast, ↓reduceIte, reduceCtorEq, ν1, ν2, ν3, ν4, ν5, ζ1, ζ2, ζ3, ζ4, ζ5, l2, l3, horigin, dorigin, hhop, dhop, hmed, dmed, hpref, dpref, hm', beq])))
    ((first | refine retA.ret (by rfl) ?_ | refine retA.normal (by rfl) ?_); simp (disch := omega) only [push_cast, ↓reduceIte, reduceCtorEq, Nat.reduceAdd, Nat.reduceMul, Nat.reduceLeDiff, Nat.reduceLT, Nat.reduceSub, Int.reduceNe, Int.reduceEq, Int.reduceLE, Int.reduceLT, Int.reduceToNat])
    exact ⟨hfr _ _, by simp [sameP, hm']⟩
  by_cases hr : (a.hasPref == b.hasPref) = true
  rotate_left
  · have hr' : (a.hasPref == b.hasPref) = false := by simpa using hr
    (repeat (first | refine st ?_ | refine σa ?_ | (refine σb ?_; simp (disch := omega) only [push_cast, ↓reduceIte, reduceCtorEq, ν1, ν2, ν3, ν4, ν5, ζ1, ζ2, ζ3, ζ4, ζ5, l2, l3, horigin, dorigin, hhop, dhop, hmed, dmed, hpref, dpref, hm, hr', beq])))
    ((first | refine retA.ret (by rfl) ?_ | refine retA.normal (by rfl) ?_); simp (disch := omega) only [push_cast, ↓reduceIte, reduceCtorEq, Nat.reduceAdd, Nat.reduceMul, Nat.reduceLeDiff, Nat.reduceLT, Nat.reduceSub, Int.reduceNe, Int.reduceEq, Int.reduceLE, Int.reduceLT, Int.reduceToNat])
    exact ⟨hfr _ _, by simp [sameP, hr']⟩
  (repeat (first | refine st ?_ | refine σa ?_ | (refine σb ?_; simp (disch := omega) only [push_cast, ↓reduceIte, reduceCtorEq, ν1, ν2, ν3, ν4, ν5, ζ1, ζ2, ζ3, ζ4, ζ5, l2, l3, horigin, dorigin, hhop, dhop, hmed, dmed, hpref, dpref, hm, hr, beq])))
  refine (nums_spec p q _ _ _ (hp.keep (hfr _ _) (by simp)) (hq.keep (hfr _ _) (by simp)) (by omega)).mono ?_
  rintro r M1 ⟨rfl, rfl⟩
  by_cases hpq : a.path = b.path
  rotate_left
  · have d : decide (a.path = b.path) = false := decide_eq_false hpq
    (repeat (first | refine st ?_ | refine σa ?_ | (refine σb ?_; simp (disch := omega) only [push_cast, ↓reduceIte, reduceCtorEq, ν1, ν2, ν3, ν4, ν5, ζ1, ζ2, ζ3, ζ4, ζ5, l2, l3, d])))
    ((first | refine retA.ret (by rfl) ?_ | refine retA.normal (by rfl) ?_); simp (disch := omega) only [push_cast, ↓reduceIte, reduceCtorEq, Nat.reduceAdd, Nat.reduceMul, Nat.reduceLeDiff, Nat.reduceLT, Nat.reduceSub, Int.reduceNe, Int.reduceEq, Int.reduceLE, Int.reduceLT, Int.reduceToNat])
    exact ⟨hfr _ _, by simp [sameP, hpq]⟩
  have d : decide (a.path = b.path) = true := decide_eq_true hpq
  (repeat (first | refine st ?_ | refine σa ?_ | (refine σb ?_; simp (disch := omega) only [push_cast, ↓reduceIte, reduceCtorEq, ν1, ν2, ν3, ν4, ν5, ζ1, ζ2, ζ3, ζ4, ζ5, l2, l3, d])))
  refine (nums_spec c dd _ _ _ (hc.keep (hfr _ _) (by simp)) (hd.keep (hfr _ _) (by simp)) (by omega)).mono ?_
  rintro r M1 ⟨rfl, rfl⟩
  (repeat (first | refine st ?_ | refine σa ?_ | (refine σb ?_; simp (disch := omega) only [push_cast, ↓reduceIte, reduceCtorEq, ν1, ν2, ν3, ν4, ν5, ζ1, ζ2, ζ3, ζ4, ζ5])))
  ((first | refine retA.ret (by rfl) ?_ | refine retA.normal (by rfl) ?_); simp (disch := omega) only [push_cast, ↓reduceIte, reduceCtorEq, Nat.reduceAdd, Nat.reduceMul, Nat.reduceLeDiff, Nat.reduceLT, Nat.reduceSub, Int.reduceNe, Int.reduceEq, Int.reduceLE, Int.reduceLT, Int.reduceToNat])
  refine ⟨hfr _ _, ?_⟩
  have e1 : a.hasMed = b.hasMed := by simpa using hm
  have e2 : a.hasPref = b.hasPref := by simpa using hr
  simp [sameP, horigin, hhop, hmed, hpref, e1, e2, hpq]

end Go.Proofs.Ytbdejnnbpdgjlaa.Ax

namespace Go.Proofs.Ytbdejnnbpdgjlaa.Ax
open Go Go.RowKit
open Nat renaming reduceAdd → ν1, reduceMul → ν2, reduceLeDiff → ν3, reduceLT → ν4, reduceSub → ν5
open Int renaming reduceNe → ζ1, reduceEq → ζ2, reduceLE → ζ3, reduceLT → ζ4, reduceToNat → ζ5
set_option linter.unusedVariables false
set_option linter.unusedSimpArgs false
set_option maxRecDepth 100000
set_option maxHeartbeats 20000000
attribute [local irreducible] thenA blockA scopeA retA AL AW AD ADL AH clrK CallA apure aload bload appK ptrK fnK ares szOk planOk okOps
theorem d22_Ar5 {g n : Prop} (k : n) (h : n → g := by first | exact AW.dr (id := 6) (by rfl) [0, 1, 2, 3, 4, 5, 6, 7, 8] (by kernel_rfl) (by kernel_rfl)) : g := h k
theorem bytes_spec (v w : Value) (xs ys : List Int) (M : Mem) (hv : Sl M v 1 (ints .u8 xs)) (hw : Sl M w 1 (ints .u8 ys)) (hl : xs.length ≤ 1000000000) : CallA Try.prog 22 [v, w] M fun r M' => M' = M ∧ r = .bool (decide (xs = ys)) := by
  have hs := hv.isSl
  have hn := hv.lnI
  have hs2 := hw.isSl
  have hn2 := hw.lnI
  (refine CallA.of_body Try.func22 rfl (by rfl) ?_; simp only [Try.ntmps22, List.length_cons, List.length_nil, List.replicate, List.cons_append, List.nil_append, Nat.reduceSub, Nat.reduceAdd])
  by_cases hlen : xs.length = ys.length
  · have d0 : decide ((xs.length : Int) = ys.length) = true := decide_eq_true (by omega)
    (repeat (first | refine st ?_ | refine σa ?_ | refine d22_Ar5 ?_ | ((first | refine σb ?_ | refine σc ?_); simp (disch := omega) only [push_cast, ↓reduceIte, reduceCtorEq, ν1, ν2, ν3, ν4, ν5, ζ1, ζ2, ζ3, ζ4, ζ5, hs, hn, hs2, hn2, d0, Bool.not_true])))
    refine AW.loopF [4, 5, 13, 14, 15, 16, 17, 18, 19, 20, 21, 22, 23, 24, 25] (fun m g M' => ∃ i : Nat, g 13 = .int .i64 i ∧ i + m = xs.length ∧ M' = M ∧ ∀ q, q < i → xs.getD q 0 = ys.getD q 0) xs.length ?_ ?_
    · exact ⟨0, rfl, by omega, rfl, fun q h => by omega⟩
    rintro m g M1 ⟨i, h13, hi, rfl, he⟩
    simp (disch := omega) only [push_cast, ↓reduceIte, reduceCtorEq, Nat.reduceAdd, Nat.reduceMul, Nat.reduceLeDiff, Nat.reduceLT, Nat.reduceSub, Int.reduceNe, Int.reduceEq, Int.reduceLE, Int.reduceLT, Int.reduceToNat, h13]
    (repeat (first | refine st ?_ | refine σa ?_ | refine d22_Ar5 ?_ | ((first | refine σb ?_ | refine σc ?_); simp (disch := omega) only [push_cast, ↓reduceIte, reduceCtorEq, ν1, ν2, ν3, ν4, ν5, ζ1, ζ2, ζ3, ζ4, ζ5])))
    ((first | refine AL.gu rfl (fun hlt => ?_) (fun hlt => ?_) | refine AW.condS rfl rfl (fun hlt => ?_) (fun hlt => ?_)) <;> (try (have hlt' := hlt; simp only [Bool.not_eq_true', Bool.not_eq_false', Bool.not_true, Bool.not_false, decide_eq_true_eq, decide_eq_false_iff_not, Classical.not_not, Int.not_lt, Int.not_le, gt_iff_lt, ge_iff_le, beq_iff_eq] at hlt')))
    · have l1 := hv.ldN (P := Try.prog) (ty := 5) (i := i) (by kernel_rfl) (by omega)
      have l2 := hw.ldN (P := Try.prog) (ty := 5) (i := i) (by kernel_rfl) (by omega)
      (repeat (first | refine st ?_ | refine σa ?_ | refine d22_Ar5 ?_ | ((first | refine σb ?_ | refine σc ?_); simp (disch := omega) only [push_cast, ↓reduceIte, reduceCtorEq, ν1, ν2, ν3, ν4, ν5, ζ1, ζ2, ζ3, ζ4, ζ5, hs, hn, hs2, hn2, l1, l2, Int.toNat_natCast])))
      ((first | refine AL.gu rfl (fun hne => ?_) (fun hne => ?_) | refine AW.condS rfl rfl (fun hne => ?_) (fun hne => ?_)) <;> (try (have hne' := hne; simp only [Bool.not_eq_true', Bool.not_eq_false', Bool.not_true, Bool.not_false, decide_eq_true_eq, decide_eq_false_iff_not, Classical.not_not, Int.not_lt, Int.not_le, gt_iff_lt, ge_iff_le, beq_iff_eq] at hne')))
      · (repeat (first | refine st ?_ | refine σa ?_ | refine d22_Ar5 ?_ | ((first | refine σb ?_ | refine σc ?_); simp (disch := omega) only [push_cast, ↓reduceIte, reduceCtorEq, ν1, ν2, ν3, ν4, ν5, ζ1, ζ2, ζ3, ζ4, ζ5])))
        ((first | refine retA.ret (by rfl) ?_ | refine retA.normal (by rfl) ?_); simp (disch := omega) only [push_cast, ↓reduceIte, reduceCtorEq, Nat.reduceAdd, Nat.reduceMul, Nat.reduceLeDiff, Nat.reduceLT, Nat.reduceSub, Int.reduceNe, Int.reduceEq, Int.reduceLE, Int.reduceLT, Int.reduceToNat])
        have hx : xs ≠ ys := fun e => hne' (by rw [e])
        simp [hx]
      · (repeat (first | refine st ?_ | refine σa ?_ | refine d22_Ar5 ?_ | ((first | refine σb ?_ | refine σc ?_); simp (disch := omega) only [push_cast, ↓reduceIte, reduceCtorEq, ν1, ν2, ν3, ν4, ν5, ζ1, ζ2, ζ3, ζ4, ζ5, w_i64])))
        refine ⟨rfl, m - 1, by omega, i + 1, rfl, by omega, rfl, fun q hq => ?_⟩
        by_cases e : q = i
        · rw [e]; exact hne'
        · exact he q (by omega)
    · (repeat (first | refine st ?_ | refine σa ?_ | refine d22_Ar5 ?_ | ((first | refine σb ?_ | refine σc ?_); simp (disch := omega) only [push_cast, ↓reduceIte, reduceCtorEq, ν1, ν2, ν3, ν4, ν5, ζ1, ζ2, ζ3, ζ4, ζ5])))
      ((first | refine retA.ret (by rfl) ?_ | refine retA.normal (by rfl) ?_); simp (disch := omega) only [push_cast, ↓reduceIte, reduceCtorEq, Nat.reduceAdd, Nat.reduceMul, Nat.reduceLeDiff, Nat.reduceLT, Nat.reduceSub, Int.reduceNe, Int.reduceEq, Int.reduceLE, Int.reduceLT, Int.reduceToNat])
      have hx : xs = ys := by
        apply List.ext_getElem hlen
        intro q h1 h2
        have := he q (by omega)
        rwa [getD_lt h1, getD_lt h2] at this
      simp [hx]
  · have d0 : decide ((xs.length : Int) = ys.length) = false := decide_eq_false (by omega)
    (repeat (first | refine st ?_ | refine σa ?_ | refine d22_Ar5 ?_ | ((first | refine σb ?_ | refine σc ?_); simp (disch := omega) only [push_cast, ↓reduceIte, reduceCtorEq, ν1, ν2, ν3, ν4, ν5, ζ1, ζ2, ζ3, ζ4, ζ5, hs, hn, hs2, hn2, d0, Bool.not_false])))
    ((first | refine retA.ret (by rfl) ?_ | refine retA.normal (by rfl) ?_); simp (disch := omega) only [push_cast, ↓reduceIte, reduceCtorEq, Nat.reduceAdd, Nat.reduceMul, Nat.reduceLeDiff, Nat.reduceLT, Nat.reduceSub, Int.reduceNe, Int.reduceEq, Int.reduceLE, Int.reduceLT, Int.reduceToNat])
    have hx : xs ≠ ys := fun e => hlen (by rw [e])
    simp [hx]

end Go.Proofs.Ytbdejnnbpdgjlaa.Ax
