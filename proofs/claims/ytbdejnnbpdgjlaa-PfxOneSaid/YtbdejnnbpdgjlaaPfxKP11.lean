/- Contracts of functions over the abstract machine. No conditions: lemmas alone. -/
import Derived.Test.YtbdejnnbpdgjlaaPfxKLibD
import Derived.Test.YtbdejnnbpdgjlaaPfxKP0
import Derived.Test.YtbdejnnbpdgjlaaPfxKP8
import Derived.Test.YtbdejnnbpdgjlaaPfxKP4
import Derived.Test.YtbdejnnbpdgjlaaPfxKP10
namespace Go.Proofs.Ytbdejnnbpdgjlaa.Ax
open Go Go.RowKit
open Nat renaming reduceAdd → ν1, reduceMul → ν2, reduceLeDiff → ν3, reduceLT → ν4, reduceSub → ν5
open Int renaming reduceNe → ζ1, reduceEq → ζ2, reduceLE → ζ3, reduceLT → ζ4, reduceToNat → ζ5
set_option linter.unusedVariables false
set_option linter.unusedSimpArgs false
set_option maxRecDepth 100000
set_option maxHeartbeats 20000000
attribute [local irreducible] thenA blockA scopeA retA AL AW AD ADL AH clrK CallA apure aload bload appK ptrK fnK ares szOk planOk okOps
theorem d13_Kpa {g n : Prop} (k : n) (h : n → g := by first | exact AW.dr (id := 9) (by rfl) [0, 1, 2, 3, 4, 5, 6, 7, 8, 9, 10] (by kernel_rfl) (by kernel_rfl)) : g := h k
theorem a13_Kpa {g n : Prop} (k : n) (h : n → g := by first | exact AL.mk rfl | exact AL.cp rfl rfl | exact AL.mm | exact AL.lk rfl rfl | exact AL.mu rfl rfl rfl | exact AL.cs (ty := 39) (uy := 9) rfl | exact AH.mk rfl | exact AH.cpN rfl rfl (by kernel_rfl)) : g := h k
theorem kinds_spec (v : Value) (l : List RG) (M : Mem) (hv : Sl M v 4 (rgs l)) (hg : ∀ r ∈ l, goodR r) (hl : l.length ≤ 64) :
  CallA Try.prog 13 [v] M fun r M' => Fr M M' [] ∧ ∃ w ys, r = .tuple ⟨[w, .int .i64 0]⟩ ∧ New M M' w 2 (pxs (kindsP l ys)) ∧ (kindsP l ys).length ≤ 10000 ∧ riseL ys ∧ ∀ x, x ∈ ys ↔ x ∈ begs l := by
 have s0 := hv.isSl
 have n0 := hv.lnR
 have d64 : decide ((l.length : Int) > 64) = false := decide_eq_false (by omega)
 (refine CallA.of_body Try.func13 rfl (by rfl) ?_; simp only [Try.ntmps13, List.length_cons, List.length_nil, List.replicate, List.cons_append, List.nil_append, Nat.reduceSub, Nat.reduceAdd])
 (repeat (first | refine st ?_ | refine σa ?_ | refine d13_Kpa ?_ | ((first | refine a13_Kpa ?_ | refine σb ?_ | refine σc ?_); simp (disch := omega) only [push_cast, ↓reduceIte, reduceCtorEq, ν1, ν2, ν3, ν4, ν5, ζ1, ζ2, ζ3, ζ4, ζ5, s0, n0, d64, memE, boxE, buildE, lsE])))
 have P0 := Fr.push M (.row true 1 (ints .u32 [0]))
 have hr0 := New.row M (s := 1) (n := 1) (cs := ints .u32 [0]) (by omega) rfl rfl (by decide)
 refine AW.loopF [4, 6, 7, 23, 24, 25, 26, 27, 28, 29, 30, 31, 32, 33, 34, 35, 36, 37, 38, 39, 40, 41, 42, 43, 44, 45, 46, 47, 48, 49, 50, 51, 52] (fun m g M' => ∃ i : Nat, g 23 = .int .i64 i ∧ i + m = l.length ∧ Fr M M' [] ∧ New M M' (g 4) 1 (ints .u32 (0 :: (l.take i).flatMap begR))) l.length ?_ ?_
 ·exact ⟨0, rfl, by omega, P0, hr0⟩
 rintro m g M1 ⟨i, h23, hi, F1, N1⟩
 obtain ⟨at', h4⟩ : ∃ at', g 4 = at' := ⟨_, rfl⟩
 rw [h4] at N1
 simp (disch := omega) only [push_cast, ↓reduceIte, reduceCtorEq, Nat.reduceAdd, Nat.reduceMul, Nat.reduceLeDiff, Nat.reduceLT, Nat.reduceSub, Int.reduceNe, Int.reduceEq, Int.reduceLE, Int.reduceLT, Int.reduceToNat, h23, h4]
 have lb : (0 :: (l.take i).flatMap begR).length ≤ 1 + 2 * i := by
  have := begs_len (l.take i)
  rw [List.length_take] at this
  unfold begs at this
  omega
 by_cases ci : i < l.length
 rotate_left
 ·have d : decide ((i : Int) < (l.length : Int)) = false := decide_eq_false (by omega)
  obtain rfl : i = l.length := by omega
  rw [List.take_length] at N1
  (repeat (first | refine st ?_ | refine σa ?_ | refine d13_Kpa ?_ | ((first | refine a13_Kpa ?_ | refine σb ?_ | refine σc ?_); simp (disch := omega) only [push_cast, ↓reduceIte, reduceCtorEq, ν1, ν2, ν3, ν4, ν5, ζ1, ζ2, ζ3, ζ4, ζ5, d, lsE])))
  obtain ⟨xs, hxs⟩ : ∃ xs, xs = begs l := ⟨_, rfl⟩
  have N1x : New M M1 at' 1 (ints .u32 xs) := by rw [hxs]; exact N1
  have lxs : xs.length ≤ 129 := by have := begs_len l; rw [hxs]; omega
  refine (sort_spec at' xs M1 N1x.1 (by omega)).mono ?_
  rintro r M2 ⟨ys, hperm, hsort, O2, F2⟩
  have F12 : Fr M M2 [] := (F1.trans F2).cut (fun y hy hlt => by simp at hy; have := N1.blk y hy; omega)
  have lys : ys.length ≤ 129 := by rw [hperm.length_eq]; exact lxs
  have hrise : riseL ys := riseL_sort (Nat.le_of_eq hperm.length_eq) hsort
  have hmem : ∀ x, x ∈ ys ↔ x ∈ begs l := fun x => by rw [hperm.mem_iff, hxs]
  have gys : ∀ y ∈ ys, 0 ≤ y ∧ y ≤ 4294967295 := fun y hy => begs_good hg y ((hmem y).1 hy)
  have sA := O2.sl.isSl
  have nA := O2.sl.lnI
  (repeat (first | refine st ?_ | refine σa ?_ | refine d13_Kpa ?_ | ((first | refine a13_Kpa ?_ | refine σb ?_ | refine σc ?_); simp (disch := omega) only [push_cast, ↓reduceIte, reduceCtorEq, ν1, ν2, ν3, ν4, ν5, ζ1, ζ2, ζ3, ζ4, ζ5, sA, nA, lsE])))
  have PM := Fr.push M2 (.map [])
  have AM := At.push M2 (.map [])
  obtain ⟨mp, hmp⟩ : ∃ mp, mp = M2.length := ⟨_, rfl⟩
  rw [← hmp] at AM ⊢
  have lM2 : mp ≤ M2.length := by omega
  have SA := (O2.sl.keep PM (by simp))
  have bA : ∀ b ∈ blkOf at', b ≠ mp := fun b hb => by have := O2.sl.blks b hb; omega
  have hv2 := (hv.keep F12 (by simp)).keep PM (by simp)
  have F02 := F12.tr PM
  have lM : M.length ≤ mp := by have := F12.1; omega
  generalize M2 ++ [Blk.map []] = M3 at *
  refine AW.loopF [9, 10, 12, 13, 14, 15, 16, 56, 57, 58, 59, 60, 61, 62, 63, 64, 65, 66, 67, 68, 69, 70, 71, 72, 73, 74, 75, 76, 77, 78, 79, 80, 81, 82, 83, 84, 85, 86, 87, 88, 89, 90, 91, 92, 93, 94, 95, 96, 97, 98, 99] (fun m g M' => ∃ n : Nat, g 56 = .int .i64 n ∧ n + m = 33 ∧ Fr M M' [] ∧ Fr M3 M' [mp] ∧ At M' mp (.map (kes l (kst l ys n 0))) ∧ New M3 M' (g 9) 2 (pxs (kst l ys n 0))) 33 ?_ ?_
  ·exact ⟨0, rfl, by omega, F02, (Fr.refl M3).cut (by simp), AM, New.nil M3 (by omega)⟩
  rintro m' g' M4 ⟨n, h56, hn, F4, F34, A4, N4⟩
  obtain ⟨out, h9⟩ : ∃ out, g' 9 = out := ⟨_, rfl⟩
  rw [h9] at N4
  simp (disch := omega) only [push_cast, ↓reduceIte, reduceCtorEq, Nat.reduceAdd, Nat.reduceMul, Nat.reduceLeDiff, Nat.reduceLT, Nat.reduceSub, Int.reduceNe, Int.reduceEq, Int.reduceLE, Int.reduceLT, Int.reduceToNat, h56, h9]
  by_cases cn : n < 33
  rotate_left
  ·have d : decide ((n : Int) < 33) = false := decide_eq_false (by omega)
   obtain rfl : n = 33 := by omega
   (repeat (first | refine st ?_ | refine σa ?_ | refine d13_Kpa ?_ | ((first | refine a13_Kpa ?_ | refine σb ?_ | refine σc ?_); simp (disch := omega) only [push_cast, ↓reduceIte, reduceCtorEq, ν1, ν2, ν3, ν4, ν5, ζ1, ζ2, ζ3, ζ4, ζ5, d, lsE])))
   ((first | refine retA.ret (by rfl) ?_ | refine retA.normal (by rfl) ?_); simp (disch := omega) only [push_cast, ↓reduceIte, reduceCtorEq, Nat.reduceAdd, Nat.reduceMul, Nat.reduceLeDiff, Nat.reduceLT, Nat.reduceSub, Int.reduceNe, Int.reduceEq, Int.reduceLE, Int.reduceLT, Int.reduceToNat])
   have lk := kst_len l ys 33 0 (by omega)
   rw [kst_end] at lk N4
   exact ⟨F4, out, rfl, ys, N4.after F02, by omega, hrise, hmem⟩
  have d : decide ((n : Int) < 33) = true := decide_eq_true (by omega)
  have wn : IntKind.i64.wrap ((n : Int) + 1) = ((n + 1 : Nat) : Int) := by rw [w_i64 (by omega) (by omega)]; rfl
  (repeat (first | refine st ?_ | refine σa ?_ | refine d13_Kpa ?_ | ((first | refine a13_Kpa ?_ | refine σb ?_ | refine σc ?_); simp (disch := omega) only [push_cast, ↓reduceIte, reduceCtorEq, ν1, ν2, ν3, ν4, ν5, ζ1, ζ2, ζ3, ζ4, ζ5, d, sA, nA, lsE])))
  refine AW.loopF [9, 12, 13, 14, 15, 16, 61, 62, 63, 64, 65, 66, 67, 68, 69, 70, 71, 72, 73, 74, 75, 76, 77, 78, 79, 80, 81, 82, 83, 84, 85, 86, 87, 88, 89, 90, 91, 92, 93, 94, 95, 96, 97, 98] (fun m g M' => ∃ i : Nat, g 61 = .int .i64 i ∧ i + m = ys.length ∧ Fr M M' [] ∧ Fr M3 M' [mp] ∧ At M' mp (.map (kes l (kst l ys n i))) ∧ New M3 M' (g 9) 2 (pxs (kst l ys n i))) ys.length ?_ ?_
  ·exact ⟨0, rfl, by omega, F4, F34, A4, N4⟩
  rintro m2 g2 M5 ⟨i, h61, hi, F5, F35, A5, N5⟩
  obtain ⟨out2, h92⟩ : ∃ out2, g2 9 = out2 := ⟨_, rfl⟩
  rw [h92] at N5
  simp (disch := omega) only [push_cast, ↓reduceIte, reduceCtorEq, Nat.reduceAdd, Nat.reduceMul, Nat.reduceLeDiff, Nat.reduceLT, Nat.reduceSub, Int.reduceNe, Int.reduceEq, Int.reduceLE, Int.reduceLT, Int.reduceToNat, h61, h92]
  by_cases ci : i < ys.length
  rotate_left
  ·have d : decide ((i : Int) < (ys.length : Int)) = false := decide_eq_false (by omega)
   obtain rfl : i = ys.length := by omega
   (repeat (first | refine st ?_ | refine σa ?_ | refine d13_Kpa ?_ | ((first | refine a13_Kpa ?_ | refine σb ?_ | refine σc ?_); simp (disch := omega) only [push_cast, ↓reduceIte, reduceCtorEq, ν1, ν2, ν3, ν4, ν5, ζ1, ζ2, ζ3, ζ4, ζ5, d, lsE])))
   rw [kst_next] at A5 N5
   refine ⟨rfl, m' - 1, by omega, n + 1, ?_, by omega, F5, F35, A5, N5⟩
   show Value.int .i64 (IntKind.i64.wrap ((n : Int) + 1)) = _
   rw [wn]
  have d2 : decide ((i : Int) < (ys.length : Int)) = true := decide_eq_true (by omega)
  have eti : ((i : Nat) : Int).toNat = i := Int.toNat_natCast i
  have ldy := (SA.keep F35 (fun b hb hx => bA b hb (by simpa using hx))).ldN (P := Try.prog) (ty := 30) (i := i) (by kernel_rfl) ci
  have lj : (i : Int) < (ys.length : Int) := by omega
  have l0 : (0 : Int) ≤ (i : Int) := by omega
  obtain ⟨y, hy⟩ : ∃ y, y = ys.getD i 0 := ⟨_, rfl⟩
  rw [← hy] at ldy
  have gy : 0 ≤ y ∧ y ≤ 4294967295 := by rw [hy]; exact gys _ (getD_mem ci)
  have hsu := kst_succ l ys n ci
  rw [← hy] at hsu
  have wi : IntKind.i64.wrap ((i : Int) + 1) = ((i + 1 : Nat) : Int) := by rw [w_i64 (by omega) (by omega)]; rfl
  (repeat (first | refine st ?_ | refine σa ?_ | refine d13_Kpa ?_ | ((first | refine a13_Kpa ?_ | refine σb ?_ | refine σc ?_); simp (disch := omega) only [push_cast, ↓reduceIte, reduceCtorEq, ν1, ν2, ν3, ν4, ν5, ζ1, ζ2, ζ3, ζ4, ζ5, d2, sA, nA, eti, lj, l0, ldy, memE, boxE, buildE, lsE])))
  refine (gmask_spec (y, (n : Int)) M5 gy).mono ?_
  rintro r M6 ⟨F6, rfl⟩
  obtain ⟨p, hp⟩ : ∃ p, p = maskP (y, (n : Int)) := ⟨_, rfl⟩
  have gp : 0 ≤ p.1 ∧ p.1 ≤ 4294967295 := by rw [hp]; exact maskQ_good gy
  rw [← hp] at hsu ⊢
  (repeat (first | refine st ?_ | refine σa ?_ | refine d13_Kpa ?_ | ((first | refine a13_Kpa ?_ | refine σb ?_ | refine σc ?_); simp (disch := omega) only [push_cast, ↓reduceIte, reduceCtorEq, ν1, ν2, ν3, ν4, ν5, ζ1, ζ2, ζ3, ζ4, ζ5, s0, n0, memE, boxE, boxE, buildE, lsE])))
  refine mkK.ints (P := Try.prog) (e := 5) (bt := 1) (k := .u8) (by kernel_rfl) (by kernel_rfl) (by kernel_rfl) (by kernel_rfl) (l := l.length) (n := l.length) (Nat.le_refl _) (by omega) (by omega) ?_
  have Pp := Fr.push M6 (.box [.int .u32 p.1, .int .i64 p.2])
  have Ap := At.push M6 (.box [.int .u32 p.1, .int .i64 p.2])
  obtain ⟨pb, hpb⟩ : ∃ pb, pb = M6.length := ⟨_, rfl⟩
  rw [← hpb] at Ap ⊢
  have lpb : pb < (M6 ++ [Blk.box [.int .u32 p.1, .int .i64 p.2]]).length := by rw [hpb]; simp
  have F6p := F6.tr Pp
  generalize M6 ++ [Blk.box [.int .u32 p.1, .int .i64 p.2]] = Mb at *
  have Pk := Fr.push Mb (.row true 1 (ints .u8 (List.replicate l.length 0)))
  have Ak := At.push Mb (.row true 1 (ints .u8 (List.replicate l.length 0)))
  obtain ⟨kb, hkb⟩ : ∃ kb, kb = Mb.length := ⟨_, rfl⟩
  rw [← hkb] at Ak lpb ⊢
  have lkb : kb < (Mb ++ [Blk.row true 1 (ints .u8 (List.replicate l.length 0))]).length := by rw [hkb]; simp
  have Ap7 := Ap.keep Pk (by simp)
  have F57 := F6p.tr Pk
  have l5k : M5.length ≤ kb := by have := F6p.1; omega
  generalize Mb ++ [Blk.row true 1 (ints .u8 (List.replicate l.length 0))] = M7 at *
  (repeat (first | refine st ?_ | refine σa ?_ | refine d13_Kpa ?_ | ((first | refine a13_Kpa ?_ | refine σb ?_ | refine σc ?_); simp (disch := omega) only [push_cast, ↓reduceIte, reduceCtorEq, ν1, ν2, ν3, ν4, ν5, ζ1, ζ2, ζ3, ζ4, ζ5, s0, n0, lsE])))
  refine AW.loopF [15, 16, 74, 75, 76, 77, 78, 79, 80, 81, 82, 83, 84, 85] (fun m g M' => ∃ j : Nat, g 74 = .int .i64 j ∧ j + m = l.length ∧ Fr M7 M' [kb] ∧ At M' kb (.row true 1 (ints .u8 (kindR (l.take j) p ++ List.replicate (l.length - j) 0)))) l.length ?_ ?_
  ·exact ⟨0, rfl, by omega, (Fr.refl M7).cut (by simp), Ak⟩
  rintro m3 g3 M8 ⟨j, h74, hj, F78, A8⟩
  simp (disch := omega) only [push_cast, ↓reduceIte, reduceCtorEq, Nat.reduceAdd, Nat.reduceMul, Nat.reduceLeDiff, Nat.reduceLT, Nat.reduceSub, Int.reduceNe, Int.reduceEq, Int.reduceLE, Int.reduceLT, Int.reduceToNat, h74]
  have F58 : Fr M5 M8 [] := (F57.trans F78).cut (fun y hy hlt => by simp at hy; omega)
  by_cases cj : j < l.length
  rotate_left
  ·have d : decide ((j : Int) < (l.length : Int)) = false := decide_eq_false (by omega)
   obtain rfl : j = l.length := by omega
   rw [List.take_length, Nat.sub_self, List.replicate_zero, List.append_nil] at A8
   have SK : Sl M8 (.slice (some ⟨kb, 0, none⟩) l.length l.length) 1 (ints .u8 (kindR l p)) := (Own.row (by omega) A8.get (by rw [ints_length, kindR_length]; omega) (ints_one _ _) (by show l.length ≤ capLb l.length; unfold capLb; rw [if_pos (by unfold capLow; omega)]; omega)).sl
   have AM8 := A5.keep F58 (by simp)
   have lk := kes_look l (kst l ys n i) p
   unfold keyK at lk
   (repeat (first | refine st ?_ | refine σa ?_ | refine d13_Kpa ?_ | ((first | refine a13_Kpa ?_ | refine σb ?_ | refine σc ?_); simp (disch := omega) only [push_cast, ↓reduceIte, reduceCtorEq, ν1, ν2, ν3, ν4, ν5, ζ1, ζ2, ζ3, ζ4, ζ5, d, lsE])))
   refine strK.of (e := 5) (by kernel_rfl) (by kernel_rfl) (by kernel_rfl) SK ?_
   (repeat (first | refine st ?_ | refine σa ?_ | refine d13_Kpa ?_ | ((first | refine a13_Kpa ?_ | refine σb ?_ | refine σc ?_); simp (disch := omega) only [push_cast, ↓reduceIte, reduceCtorEq, ν1, ν2, ν3, ν4, ν5, ζ1, ζ2, ζ3, ζ4, ζ5, lsE])))
   refine mapK.of (kt := 9) (et := 4) (d := .string) (zc := .bool false) (es := kes l (kst l ys n i)) (by kernel_rfl) (by kernel_rfl) (by kernel_rfl) rfl rfl (kes_keys _ _) AM8.get ?_
   obtain ⟨K, hK⟩ : ∃ K, K = kst l ys n i := ⟨_, rfl⟩
   have lK : K.length ≤ 5000 := by
    have h1 := kst_len l ys n i (by omega)
    have h2 : n * ys.length ≤ 33 * 129 := Nat.mul_le_mul (by omega) lys
    rw [hK]; omega
   rw [← hK] at lk N5 hsu AM8 ⊢
   by_cases cm : kindR l p ∈ K.map (kindR l)
   ·rw [decide_eq_true cm] at lk
    have hst : stepK l K p = K := by unfold stepK; rw [if_pos cm]
    rw [hst] at hsu
    (repeat (first | refine st ?_ | refine σa ?_ | refine d13_Kpa ?_ | ((first | refine a13_Kpa ?_ | refine σb ?_ | refine σc ?_); simp (disch := omega) only [push_cast, ↓reduceIte, reduceCtorEq, ν1, ν2, ν3, ν4, ν5, ζ1, ζ2, ζ3, ζ4, ζ5, lk, Bool.not_true, lsE])))
    refine ⟨rfl, m2 - 1, by omega, i + 1, ?_, by omega, F5.tr F58, (F35.trans F58).cut (fun y hy hlt => by simpa using hy), ?_, ?_⟩
    ·show Value.int .i64 (IntKind.i64.wrap ((i : Int) + 1)) = _
     rw [wi]
    ·rw [hsu]; exact AM8
    ·rw [hsu]; exact N5.keep F58 (by simp)
   ·rw [decide_eq_false cm] at lk
    have hst : stepK l K p = K ++ [p] := by unfold stepK; rw [if_neg cm]
    rw [hst] at hsu
    (repeat (first | refine st ?_ | refine σa ?_ | refine d13_Kpa ?_ | ((first | refine a13_Kpa ?_ | refine σb ?_ | refine σc ?_); simp (disch := omega) only [push_cast, ↓reduceIte, reduceCtorEq, ν1, ν2, ν3, ν4, ν5, ζ1, ζ2, ζ3, ζ4, ζ5, lk, Bool.not_false, lsE])))
    refine strK.of (e := 5) (by kernel_rfl) (by kernel_rfl) (by kernel_rfl) SK ?_
    (repeat (first | refine st ?_ | refine σa ?_ | refine d13_Kpa ?_ | ((first | refine a13_Kpa ?_ | refine σb ?_ | refine σc ?_); simp (disch := omega) only [push_cast, ↓reduceIte, reduceCtorEq, ν1, ν2, ν3, ν4, ν5, ζ1, ζ2, ζ3, ζ4, ζ5, lsE])))
    refine mapK.of (kt := 9) (et := 4) (d := .string) (zc := .bool false) (es := kes l K) (by kernel_rfl) (by kernel_rfl) (by kernel_rfl) rfl rfl (kes_keys _ _) AM8.get ?_
    have hput := kes_put cm
    unfold keyK at hput
    have Fm := Fr.set M8 mp (.map (kes l (K ++ [p])))
    have AM9 := AM8.set (.map (kes l (K ++ [p])))
    have aP9 := (Ap7.keep F78 (by simp; omega)).keep Fm (by have := A5.lt; have := F6.1; simp; omega)
    (repeat (first | refine st ?_ | refine σa ?_ | refine d13_Kpa ?_ | ((first | refine a13_Kpa ?_ | refine σb ?_ | refine σc ?_); simp (disch := omega) only [push_cast, ↓reduceIte, reduceCtorEq, ν1, ν2, ν3, ν4, ν5, ζ1, ζ2, ζ3, ζ4, ζ5, hput, aP9.ld, memE, boxE, boxE, buildE, lsE])))
    obtain ⟨MM, hMM⟩ : ∃ MM, MM = M8.set mp (.map (kes l (K ++ [p]))) := ⟨_, rfl⟩
    have lMM : MM.length = M8.length := by rw [hMM]; simp
    rw [← hMM] at Fm AM9 aP9 ⊢
    have Pr := Fr.push MM (.row true 2 [.int .u32 p.1, .int .i64 p.2])
    have hr := New.row MM (s := 2) (n := 1) (cs := [.int .u32 p.1, .int .i64 p.2]) (by omega) rfl rfl (by decide)
    rw [lMM] at hr
    have N5m := (N5.keep F58 (by simp)).keep Fm (fun b hb hx => by have := N5.blk b hb; have := AM.lt; simp at hx; omega)
    refine appK.elems (P := Try.prog) (e := 32) (s := 2) (bt := 16) (z := [.int .u32 0, .int .i64 0]) (by kernel_rfl) (by kernel_rfl) (by kernel_rfl) rfl (by kernel_rfl) (by decide) (N5m.1.keep Pr (by simp)) hr.sl (by rw [pxs_length]; show (K.length * 2 + 2) * _ ≤ _; omega) ?_
    intro w' MA NA FA
    have e2 : pxs K ++ [.int .u32 p.1, .int .i64 p.2] = pxs (K ++ [p]) := by rw [pxs_append]; rfl
    rw [e2] at NA
    have F8A : Fr M8 MA (mp :: blkOf out2) := ((Fm.trans Pr).trans FA).cut (fun y hy hlt => by simpa using hy)
    have bout : ∀ b ∈ blkOf out2, M3.length ≤ b := N5.blk
    (repeat (first | refine st ?_ | refine σa ?_ | refine d13_Kpa ?_ | ((first | refine a13_Kpa ?_ | refine σb ?_ | refine σc ?_); simp (disch := omega) only [push_cast, ↓reduceIte, reduceCtorEq, ν1, ν2, ν3, ν4, ν5, ζ1, ζ2, ζ3, ζ4, ζ5, lsE])))
    refine ⟨rfl, m2 - 1, by omega, i + 1, ?_, by omega, ?_, ?_, ?_, ?_⟩
    ·show Value.int .i64 (IntKind.i64.wrap ((i : Int) + 1)) = _
     rw [wi]
    ·exact ((F5.tr F58).trans F8A).cut (fun y hy hlt => by have := F02.1; have := AM.lt; simp at hy; rcases hy with h | h; omega; have := bout y h; omega)
    ·exact ((F35.trans F58).trans F8A).cut (fun y hy hlt => by simp at hy ⊢; rcases hy with h | h; exact h; have := bout y h; omega)
    ·rw [hsu]
     exact (AM9.keep Pr (by simp)).keep FA (fun h => by have := bout _ h; have := AM.lt; omega)
    ·rw [hsu]
     exact ⟨NA.1, fun a b c h h0 => Nat.le_trans (by have := F35.1; have := F58.1; have := Pr.1; omega) (NA.2 a b c h h0)⟩
  have d3 : decide ((j : Int) < (l.length : Int)) = true := decide_eq_true (by omega)
  obtain ⟨x, hxj⟩ : ∃ x, l[j]? = some x := ⟨_, List.getElem?_eq_getElem cj⟩
  have hxm : x ∈ l := List.mem_of_getElem? hxj
  have etj : ((j : Nat) : Int).toNat = j := Int.toNat_natCast j
  have ldx := rg_load ((hv.keep F5 (by simp)).keep F58 (by simp)) hxj
  have lj3 : (j : Int) < (l.length : Int) := by omega
  have l03 : (0 : Int) ≤ (j : Int) := by omega
  have wj : IntKind.i64.wrap ((j : Int) + 1) = ((j + 1 : Nat) : Int) := by rw [w_i64 (by omega) (by omega)]; rfl
  have Fx := Fr.push M8 (.box (rgL x))
  have aX := At.push M8 (.box (rgL x))
  have aP := (Ap7.keep F78 (by simp; omega)).keep Fx (by simp)
  have A9 := A8.keep Fx (by simp)
  (repeat (first | refine st ?_ | refine σa ?_ | refine d13_Kpa ?_ | ((first | refine a13_Kpa ?_ | refine σy ?_ | refine σc ?_); simp (disch := omega) only [push_cast, ↓reduceIte, reduceCtorEq, ν1, ν2, ν3, ν4, ν5, ζ1, ζ2, ζ3, ζ4, ζ5, d3, s0, n0, etj, lj3, l03, ldx, rgL_len, rgL_drop, rgL_take, rgL_one, memE, boxE, boxE, buildE, lsE]) | (refine AL.pu rfl ?_; simp (disch := omega) only [push_cast, ↓reduceIte, reduceCtorEq, ν1, ν2, ν3, ν4, ν5, ζ1, ζ2, ζ3, ζ4, ζ5, d3, s0, n0, etj, lj3, l03, ldx, rgL_len, rgL_drop, rgL_take, rgL_one, memE, boxE, boxE, buildE, lsE]; refine id (α := AL _ _ _ _ _ _) ?_)))
  simp (disch := omega) only [push_cast, ↓reduceIte, reduceCtorEq, Nat.reduceAdd, Nat.reduceMul, Nat.reduceLeDiff, Nat.reduceLT, Nat.reduceSub, Int.reduceNe, Int.reduceEq, Int.reduceLE, Int.reduceLT, Int.reduceToNat, aX.ld, aP.ld, rgL_len, rgL_take, memE, boxE, buildE]
  (repeat (first | refine st ?_ | refine σa ?_ | refine d13_Kpa ?_ | ((first | refine a13_Kpa ?_ | refine σb ?_ | refine σc ?_); simp (disch := omega) only [push_cast, ↓reduceIte, reduceCtorEq, ν1, ν2, ν3, ν4, ν5, ζ1, ζ2, ζ3, ζ4, ζ5, aX.ld, aP.ld, rgL_len, rgL_take, memE, boxE, buildE, lsE])))
  refine (pfin_spec x p _ (hg x hxm) gp).mono ?_
  rintro w M9 ⟨F9, rfl⟩
  have A10 := A9.keep F9 (by simp)
  have F79 : Fr M7 M9 [kb] := ((F78.trans Fx).trans F9).cut (fun y hy hlt => by simpa using hy)
  by_cases ci : inR x p
  rotate_left
  ·rw [decide_eq_false ci]
   (repeat (first | refine st ?_ | refine σa ?_ | refine d13_Kpa ?_ | ((first | refine a13_Kpa ?_ | refine σb ?_ | refine σc ?_); simp (disch := omega) only [push_cast, ↓reduceIte, reduceCtorEq, ν1, ν2, ν3, ν4, ν5, ζ1, ζ2, ζ3, ζ4, ζ5, lsE])))
   refine ⟨rfl, m3 - 1, by omega, j + 1, ?_, by omega, F79, by rw [← kind_no hxj ci]; exact A10⟩
   show Value.int .i64 (IntKind.i64.wrap ((j : Int) + 1)) = _
   rw [wj]
  rw [decide_eq_true ci]
  have hrl := kind_row_len (l := l) p (Nat.le_of_lt cj)
  have hs := spl_ints (xs := kindR (l.take j) p ++ List.replicate (l.length - j) 0) (i := j) (by omega) 1
  have hs2 : List.take j (ints .u8 (kindR (l.take j) p ++ List.replicate (l.length - j) 0)) ++ [.int .u8 1] ++ List.drop (j + 1) (ints .u8 (kindR (l.take j) p ++ List.replicate (l.length - j) 0)) = ints .u8 ((kindR (l.take j) p ++ List.replicate (l.length - j) 0).set j 1) := hs
  (repeat (first | refine st ?_ | refine σa ?_ | refine d13_Kpa ?_ | ((first | refine a13_Kpa ?_ | refine σb ?_ | refine σc ?_); simp (disch := omega) only [push_cast, ↓reduceIte, reduceCtorEq, ν1, ν2, ν3, ν4, ν5, ζ1, ζ2, ζ3, ζ4, ζ5, etj, lj3, l03, A10.get, A10.same, hs2, ints_length, hrl, Nat.mul_one, Nat.zero_add, boxE, buildE, lsE])))
  have Fs := Fr.set M9 kb (.row true 1 (ints .u8 ((kindR (l.take j) p ++ List.replicate (l.length - j) 0).set j 1)))
  have A11 := A10.set (.row true 1 (ints .u8 ((kindR (l.take j) p ++ List.replicate (l.length - j) 0).set j 1)))
  refine ⟨rfl, m3 - 1, by omega, j + 1, ?_, by omega, (F79.trans Fs).cut (fun y hy hlt => by simpa using hy), by rw [← kind_yes hxj ci]; exact A11⟩
  show Value.int .i64 (IntKind.i64.wrap ((j : Int) + 1)) = _
  rw [wj]
 have d : decide ((i : Int) < (l.length : Int)) = true := decide_eq_true (by omega)
 obtain ⟨x, hxi⟩ : ∃ x, l[i]? = some x := ⟨_, List.getElem?_eq_getElem ci⟩
 have hxm : x ∈ l := List.mem_of_getElem? hxi
 have eti : ((i : Nat) : Int).toNat = i := Int.toNat_natCast i
 have hv1 := hv.keep F1 (by simp)
 have ldx := rg_load hv1 hxi
 have lj : (i : Int) < (l.length : Int) := by omega
 have l0 : (0 : Int) ≤ (i : Int) := by omega
 have ei : (l.take (i + 1)).flatMap begR = (l.take i).flatMap begR ++ begR x := by
  rw [List.take_add_one, hxi, Option.toList_some, List.flatMap_append, List.flatMap_cons, List.flatMap_nil, List.append_nil]
 have wi : IntKind.i64.wrap ((i : Int) + 1) = ((i + 1 : Nat) : Int) := by rw [w_i64 (by omega) (by omega)]; rfl
 (repeat (first | refine st ?_ | refine σa ?_ | refine d13_Kpa ?_ | ((first | refine a13_Kpa ?_ | refine σy ?_ | refine σc ?_); simp (disch := omega) only [push_cast, ↓reduceIte, reduceCtorEq, ν1, ν2, ν3, ν4, ν5, ζ1, ζ2, ζ3, ζ4, ζ5, d, n0, s0, eti, lj, l0, ldx, rgL_len, rgL_drop, rgL_take, rgL_one, memE, boxE, boxE, buildE, lsE]) | (refine AL.pu rfl ?_; simp (disch := omega) only [push_cast, ↓reduceIte, reduceCtorEq, ν1, ν2, ν3, ν4, ν5, ζ1, ζ2, ζ3, ζ4, ζ5, d, n0, s0, eti, lj, l0, ldx, rgL_len, rgL_drop, rgL_take, rgL_one, memE, boxE, boxE, buildE, lsE]; refine id (α := AL _ _ _ _ _ _) ?_)))
 have Fx := Fr.push M1 (.box (rgL x))
 have aX := At.push M1 (.box (rgL x))
 (repeat (first | refine st ?_ | refine σa ?_ | refine d13_Kpa ?_ | ((first | refine a13_Kpa ?_ | refine σb ?_ | refine σc ?_); simp (disch := omega) only [push_cast, ↓reduceIte, reduceCtorEq, ν1, ν2, ν3, ν4, ν5, ζ1, ζ2, ζ3, ζ4, ζ5, aX.ld, rgL_ld, memE, boxE, buildE, lsE])))
 refine (pfright_spec x _ (hg x hxm)).mono ?_
 rintro w M3 ⟨F3, rfl⟩
 have F13 := (F1.tr Fx).tr F3
 have N3 := (N1.keep Fx (by simp)).keep F3 (by simp)
 have aX3 := aX.keep F3 (by simp)
 by_cases rr : rightR x
 rotate_left
 ·rw [decide_eq_false rr]
  (repeat (first | refine st ?_ | refine σa ?_ | refine d13_Kpa ?_ | ((first | refine a13_Kpa ?_ | refine σb ?_ | refine σc ?_); simp (disch := omega) only [push_cast, ↓reduceIte, reduceCtorEq, ν1, ν2, ν3, ν4, ν5, ζ1, ζ2, ζ3, ζ4, ζ5, lsE])))
  refine ⟨rfl, m - 1, by omega, i + 1, ?_, by omega, F13, ?_⟩
  ·show Value.int .i64 (IntKind.i64.wrap ((i : Int) + 1)) = _
   rw [wi]
  ·rw [ei, show begR x = [] by unfold begR; rw [if_neg rr], List.append_nil]; exact N3
 rw [decide_eq_true rr]
 (repeat (first | refine st ?_ | refine σa ?_ | refine d13_Kpa ?_ | ((first | refine a13_Kpa ?_ | refine σb ?_ | refine σc ?_); simp (disch := omega) only [push_cast, ↓reduceIte, reduceCtorEq, ν1, ν2, ν3, ν4, ν5, ζ1, ζ2, ζ3, ζ4, ζ5, aX3.ld, rgL_ld, memE, boxE, buildE, lsE])))
 have P4 := Fr.push M3 (.row true 1 (ints .u32 [x.base.1]))
 have hr4 := New.row M3 (s := 1) (n := 1) (cs := ints .u32 [x.base.1]) (by omega) rfl rfl (by decide)
 refine appK.ints (P := Try.prog) (e := 30) (bt := 4) (z := .int .u32 0) (by kernel_rfl) (by kernel_rfl) (by kernel_rfl) (by kernel_rfl) (by decide) (N3.1.keep P4 (by simp)) hr4.sl (by rw [List.length_singleton]; omega) ?_
 intro w M5 N5 F5
 have F15 : Fr M M5 [] := ((F13.tr P4).trans F5).cut (fun y hy hlt => by simp at hy; have := N3.blk y hy; omega)
 have N5' : New M M5 w 1 (ints .u32 ((0 :: (l.take i).flatMap begR) ++ [x.base.1])) := ⟨N5.1, fun a b c h h0 => Nat.le_trans (Nat.le_trans F13.1 P4.1) (N5.2 a b c h h0)⟩
 have aX5 := (aX3.keep P4 (by simp)).keep F5 (fun hx => by have := N1.sl.blks _ hx; omega)
 have hbx : 0 ≤ x.base.1 ∧ x.base.1 ≤ 4294967295 := hg x hxm
 have hlx := rightX_len rr.1
 obtain ⟨k, hk⟩ : ∃ k : Nat, k = 32 - x.base.2.toNat := ⟨_, rfl⟩
 have e32 : IntKind.i64.wrap (32 - x.base.2) = (k : Int) := by rw [w_i64 (by omega) (by omega)]; omega
 have hm : min k IntKind.u64.bits = k := Nat.min_eq_left (by show _ ≤ 64; omega)
 have hsp : (2 : Int) ^ k = spanN x.base.2 := by rw [hk]; rfl
 have sp1 := spanN_pos x.base.2
 have sp2 := spanN_le x.base.2
 have ws : IntKind.u64.wrap (spanN x.base.2) = spanN x.base.2 := w_u64 (by omega) (by omega)
 have wb : IntKind.u64.wrap x.base.1 = x.base.1 := w_u64 (by omega) (by omega)
 have wsum : IntKind.u64.wrap (x.base.1 + spanN x.base.2) = x.base.1 + spanN x.base.2 := w_u64 (by omega) (by omega)
 (repeat (first | refine st ?_ | refine σa ?_ | refine d13_Kpa ?_ | ((first | refine a13_Kpa ?_ | refine σb ?_ | refine σc ?_); simp (disch := omega) only [push_cast, ↓reduceIte, reduceCtorEq, ν1, ν2, ν3, ν4, ν5, ζ1, ζ2, ζ3, ζ4, ζ5, aX5.ld, rgL_ld, e32, Int.toNat_natCast, hm, hsp, Int.one_mul, ws, wb, wsum, memE, boxE, buildE, lsE])))
 have eb : begR x = x.base.1 :: (if x.base.1 + spanN x.base.2 < 4294967296 then [x.base.1 + spanN x.base.2] else []) := by unfold begR; rw [if_pos rr]
 by_cases cb : x.base.1 + spanN x.base.2 < 4294967296
 rotate_left
 ·have dc : decide (x.base.1 + spanN x.base.2 < 4294967296) = false := decide_eq_false cb
  (repeat (first | refine st ?_ | refine σa ?_ | refine d13_Kpa ?_ | ((first | refine a13_Kpa ?_ | refine σb ?_ | refine σc ?_); simp (disch := omega) only [push_cast, ↓reduceIte, reduceCtorEq, ν1, ν2, ν3, ν4, ν5, ζ1, ζ2, ζ3, ζ4, ζ5, dc, lsE])))
  refine ⟨rfl, m - 1, by omega, i + 1, ?_, by omega, F15, ?_⟩
  ·show Value.int .i64 (IntKind.i64.wrap ((i : Int) + 1)) = _
   rw [wi]
  ·rw [ei, eb, if_neg cb]; exact N5'
 have dc : decide (x.base.1 + spanN x.base.2 < 4294967296) = true := decide_eq_true cb
 have w32 : IntKind.u32.wrap (x.base.1 + spanN x.base.2) = x.base.1 + spanN x.base.2 := w_u32 (by omega) (by omega)
 (repeat (first | refine st ?_ | refine σa ?_ | refine d13_Kpa ?_ | ((first | refine a13_Kpa ?_ | refine σb ?_ | refine σc ?_); simp (disch := omega) only [push_cast, ↓reduceIte, reduceCtorEq, ν1, ν2, ν3, ν4, ν5, ζ1, ζ2, ζ3, ζ4, ζ5, dc, w32, memE, boxE, buildE, lsE])))
 have P6 := Fr.push M5 (.row true 1 (ints .u32 [x.base.1 + spanN x.base.2]))
 have hr6 := New.row M5 (s := 1) (n := 1) (cs := ints .u32 [x.base.1 + spanN x.base.2]) (by omega) rfl rfl (by decide)
 refine appK.ints (P := Try.prog) (e := 30) (bt := 4) (z := .int .u32 0) (by kernel_rfl) (by kernel_rfl) (by kernel_rfl) (by kernel_rfl) (by decide) (N5'.1.keep P6 (by simp)) hr6.sl (by rw [List.length_singleton, List.length_append, List.length_singleton]; omega) ?_
 intro w' M7 N7 F7
 have F17 : Fr M M7 [] := ((F15.tr P6).trans F7).cut (fun y hy hlt => by simp at hy; have := N5'.blk y hy; omega)
 (repeat (first | refine st ?_ | refine σa ?_ | refine d13_Kpa ?_ | ((first | refine a13_Kpa ?_ | refine σb ?_ | refine σc ?_); simp (disch := omega) only [push_cast, ↓reduceIte, reduceCtorEq, ν1, ν2, ν3, ν4, ν5, ζ1, ζ2, ζ3, ζ4, ζ5, lsE])))
 refine ⟨rfl, m - 1, by omega, i + 1, ?_, by omega, F17, ?_⟩
 ·show Value.int .i64 (IntKind.i64.wrap ((i : Int) + 1)) = _
  rw [wi]
 ·rw [ei, eb, if_pos cb]
  have e2 : (0 :: (l.take i).flatMap begR) ++ [x.base.1] ++ [x.base.1 + spanN x.base.2] = 0 :: ((l.take i).flatMap begR ++ [x.base.1, x.base.1 + spanN x.base.2]) := by simp
  rw [← e2]
  exact ⟨N7.1, fun a b c h h0 => Nat.le_trans (Nat.le_trans F15.1 P6.1) (N7.2 a b c h h0)⟩
theorem d43_Kp7 {g n : Prop} (k : n) (h : n → g := by first | exact AW.dr (id := 6) (by rfl) [0, 1, 2, 3, 4, 5, 6, 7, 8] (by kernel_rfl) (by kernel_rfl)) : g := h k
theorem rg_eq (p q : RG) : aeqV Try.prog 3 36 (.agg ⟨rgL p⟩) (.agg ⟨rgL q⟩) = some (decide (p = q)) := by
 have h : aeqV Try.prog 3 36 (.agg ⟨rgL p⟩) (.agg ⟨rgL q⟩) = (if (p.base.1 == q.base.1) = true then (if (p.base.2 == q.base.2) = true then some true else some false) else some false).bind fun r => if r = true then (if (p.ge == q.ge) = true then (if (p.le == q.le) = true then some true else some false) else some false) else some false := by kernel_rfl
 rw [h]
 obtain ⟨⟨a, n⟩, g, l⟩ := p
 obtain ⟨⟨b, m⟩, g', l'⟩ := q
 by_cases h1 : a = b <;> by_cases h2 : n = m <;> by_cases h3 : g = g' <;> by_cases h4 : l = l' <;> simp [h1, h2, h3, h4]
theorem ten_spec (a b : Int) (M : Mem) : CallA Try.prog 41 [.int .i64 a, .int .i64 b] M fun r M' => r = .agg ⟨rgL ⟨(167772160, 8), a, b⟩⟩ ∧ Fr M M' [] := by
 (refine CallA.of_body Try.func41 rfl (by rfl) ?_; simp only [Try.ntmps41, List.length_cons, List.length_nil, List.replicate, List.cons_append, List.nil_append, Nat.reduceSub, Nat.reduceAdd])
 (repeat (first | refine st ?_ | refine σa ?_ | (refine σb ?_; simp (disch := omega) only [push_cast, ↓reduceIte, reduceCtorEq, ν1, ν2, ν3, ν4, ν5, ζ1, ζ2, ζ3, ζ4, ζ5, memE, boxE, boxE, buildE, lsE])))
 ((first | refine retA.ret (by rfl) ?_ | refine retA.normal (by rfl) ?_); simp (disch := omega) only [push_cast, ↓reduceIte, reduceCtorEq, Nat.reduceAdd, Nat.reduceMul, Nat.reduceLeDiff, Nat.reduceLT, Nat.reduceSub, Int.reduceNe, Int.reduceEq, Int.reduceLE, Int.reduceLT, Int.reduceToNat])
 have A0 := At.push M (.box [.int .u32 167772160, .int .i64 8, .int .i64 a, .int .i64 b])
 simp (disch := omega) only [push_cast, ↓reduceIte, reduceCtorEq, Nat.reduceAdd, Nat.reduceMul, Nat.reduceLeDiff, Nat.reduceLT, Nat.reduceSub, Int.reduceNe, Int.reduceEq, Int.reduceLE, Int.reduceLT, Int.reduceToNat, A0.ld, boxE, buildE]
 exact ⟨rfl, Fr.push M _⟩
theorem rsame_spec (v w : Value) (xs ys : List RG) (M : Mem) (hv : Sl M v 4 (rgs xs)) (hw : Sl M w 4 (rgs ys)) (hl : xs.length ≤ 1000000) : CallA Try.prog 43 [v, w] M fun r M' => M' = M ∧ r = .bool (decide (xs = ys)) := by
 have s1 := hv.isSl
 have n1 := hv.lnR
 have s2 := hw.isSl
 have n2 := hw.lnR
 (refine CallA.of_body Try.func43 rfl (by rfl) ?_; simp only [Try.ntmps43, List.length_cons, List.length_nil, List.replicate, List.cons_append, List.nil_append, Nat.reduceSub, Nat.reduceAdd])
 by_cases c : xs.length = ys.length
 rotate_left
 ·have d : decide ((xs.length : Int) = (ys.length : Int)) = false := decide_eq_false (by omega)
  (repeat (first | refine st ?_ | refine σa ?_ | refine d43_Kp7 ?_ | ((first | refine σb ?_ | refine σc ?_); simp (disch := omega) only [push_cast, ↓reduceIte, reduceCtorEq, ν1, ν2, ν3, ν4, ν5, ζ1, ζ2, ζ3, ζ4, ζ5, s1, n1, s2, n2, d, Bool.not_false, lsE])))
  ((first | refine retA.ret (by rfl) ?_ | refine retA.normal (by rfl) ?_); simp (disch := omega) only [push_cast, ↓reduceIte, reduceCtorEq, Nat.reduceAdd, Nat.reduceMul, Nat.reduceLeDiff, Nat.reduceLT, Nat.reduceSub, Int.reduceNe, Int.reduceEq, Int.reduceLE, Int.reduceLT, Int.reduceToNat])
  rw [decide_eq_false (fun h : xs = ys => c (by rw [h]))]
 have d : decide ((ys.length : Int) ≠ (ys.length : Int)) = false := decide_eq_false (by simp)
 (repeat (first | refine st ?_ | refine σa ?_ | refine d43_Kp7 ?_ | ((first | refine σb ?_ | refine σc ?_); simp (disch := omega) only [push_cast, ↓reduceIte, reduceCtorEq, ν1, ν2, ν3, ν4, ν5, ζ1, ζ2, ζ3, ζ4, ζ5, s1, n1, s2, n2, c, d, lsE])))
 refine AW.loopF [4, 5, 13, 14, 15, 16, 17, 18, 19, 20, 21, 22, 23, 24, 25] (fun m f M' => ∃ i : Nat, f 13 = .int .i64 i ∧ i + m = xs.length ∧ M' = M ∧ xs.take i = ys.take i) xs.length ?_ ?_
 ·exact ⟨0, rfl, by omega, rfl, rfl⟩
 rintro m f M1 ⟨i, h13, hi, rfl, ht⟩
 simp (disch := omega) only [push_cast, ↓reduceIte, reduceCtorEq, Nat.reduceAdd, Nat.reduceMul, Nat.reduceLeDiff, Nat.reduceLT, Nat.reduceSub, Int.reduceNe, Int.reduceEq, Int.reduceLE, Int.reduceLT, Int.reduceToNat, h13]
 by_cases ci : i < xs.length
 rotate_left
 ·have d : decide ((i : Int) < (ys.length : Int)) = false := decide_eq_false (by omega)
  (repeat (first | refine st ?_ | refine σa ?_ | refine d43_Kp7 ?_ | ((first | refine σb ?_ | refine σc ?_); simp (disch := omega) only [push_cast, ↓reduceIte, reduceCtorEq, ν1, ν2, ν3, ν4, ν5, ζ1, ζ2, ζ3, ζ4, ζ5, d, lsE])))
  ((first | refine retA.ret (by rfl) ?_ | refine retA.normal (by rfl) ?_); simp (disch := omega) only [push_cast, ↓reduceIte, reduceCtorEq, Nat.reduceAdd, Nat.reduceMul, Nat.reduceLeDiff, Nat.reduceLT, Nat.reduceSub, Int.reduceNe, Int.reduceEq, Int.reduceLE, Int.reduceLT, Int.reduceToNat])
  obtain rfl : i = xs.length := by omega
  rw [List.take_length, c, List.take_length] at ht
  rw [decide_eq_true ht]
 have d : decide ((i : Int) < (ys.length : Int)) = true := decide_eq_true (by omega)
 obtain ⟨x, hx⟩ : ∃ x, xs[i]? = some x := ⟨_, List.getElem?_eq_getElem ci⟩
 obtain ⟨y, hy⟩ : ∃ y, ys[i]? = some y := ⟨_, List.getElem?_eq_getElem (by omega)⟩
 have eti : ((i : Nat) : Int).toNat = i := Int.toNat_natCast i
 have ldx := rg_load hv hx
 have ldy := rg_load hw hy
 have lj : (i : Int) < (xs.length : Int) := by omega
 have lj2 : (i : Int) < (ys.length : Int) := by omega
 have l0 : (0 : Int) ≤ (i : Int) := by omega
 have hq := rg_eq x y
 have wi : IntKind.i64.wrap ((i : Int) + 1) = ((i + 1 : Nat) : Int) := by rw [w_i64 (by omega) (by omega)]; rfl
 by_cases cx : x = y
 rotate_left
 ·have d2 : decide (x = y) = false := decide_eq_false cx
  (repeat (first | refine st ?_ | refine σa ?_ | refine d43_Kp7 ?_ | ((first | refine σy ?_ | refine σc ?_); simp (disch := omega) only [push_cast, ↓reduceIte, reduceCtorEq, ν1, ν2, ν3, ν4, ν5, ζ1, ζ2, ζ3, ζ4, ζ5, d, s1, s2, n1, n2, eti, lj, lj2, l0, ldx, ldy, hq, d2, aggB, c, Bool.not_true, Bool.not_false, buildE, lsE]) | (refine AL.pu rfl ?_; simp (disch := omega) only [push_cast, ↓reduceIte, reduceCtorEq, ν1, ν2, ν3, ν4, ν5, ζ1, ζ2, ζ3, ζ4, ζ5, d, s1, s2, n1, n2, eti, lj, lj2, l0, ldx, ldy, hq, d2, aggB, c, Bool.not_true, Bool.not_false, buildE, lsE]; refine id (α := AL _ _ _ _ _ _) ?_)))
  ((first | refine retA.ret (by rfl) ?_ | refine retA.normal (by rfl) ?_); simp (disch := omega) only [push_cast, ↓reduceIte, reduceCtorEq, Nat.reduceAdd, Nat.reduceMul, Nat.reduceLeDiff, Nat.reduceLT, Nat.reduceSub, Int.reduceNe, Int.reduceEq, Int.reduceLE, Int.reduceLT, Int.reduceToNat])
  rw [decide_eq_false (fun h : xs = ys => cx (by rw [h, hy] at hx; exact (Option.some.inj hx).symm))]
 have d2 : decide (x = y) = true := decide_eq_true cx
 (repeat (first | refine st ?_ | refine σa ?_ | refine d43_Kp7 ?_ | ((first | refine σy ?_ | refine σc ?_); simp (disch := omega) only [push_cast, ↓reduceIte, reduceCtorEq, ν1, ν2, ν3, ν4, ν5, ζ1, ζ2, ζ3, ζ4, ζ5, d, s1, s2, n1, n2, eti, lj, lj2, l0, ldx, ldy, hq, d2, aggB, c, Bool.not_true, Bool.not_false, buildE, lsE]) | (refine AL.pu rfl ?_; simp (disch := omega) only [push_cast, ↓reduceIte, reduceCtorEq, ν1, ν2, ν3, ν4, ν5, ζ1, ζ2, ζ3, ζ4, ζ5, d, s1, s2, n1, n2, eti, lj, lj2, l0, ldx, ldy, hq, d2, aggB, c, Bool.not_true, Bool.not_false, buildE, lsE]; refine id (α := AL _ _ _ _ _ _) ?_)))
 refine ⟨rfl, ys.length - (i + 1), by omega, i + 1, ?_, by omega, ?_⟩
 ·show Value.int .i64 (IntKind.i64.wrap ((i : Int) + 1)) = _
  rw [wi]
 ·rw [List.take_add_one, List.take_add_one, hx, hy, ht, cx]
  exact ⟨rfl, rfl⟩
end Go.Proofs.Ytbdejnnbpdgjlaa.Ax
