/- Contracts of functions over the abstract machine. No conditions: lemmas alone. -/
import Derived.Test.YtbdejnnbpdgjlaaPfxKLibD
import Derived.Test.YtbdejnnbpdgjlaaPfxKP0
import Derived.Test.YtbdejnnbpdgjlaaPfxKP9
namespace Go.Proofs.Ytbdejnnbpdgjlaa.Ax
open Go Go.RowKit
open Nat renaming reduceAdd → ν1, reduceMul → ν2, reduceLeDiff → ν3, reduceLT → ν4, reduceSub → ν5
open Int renaming reduceNe → ζ1, reduceEq → ζ2, reduceLE → ζ3, reduceLT → ζ4, reduceToNat → ζ5
set_option linter.unusedVariables false
set_option linter.unusedSimpArgs false
set_option maxRecDepth 100000
set_option maxHeartbeats 20000000
attribute [local irreducible] thenA blockA scopeA retA AL AW AD ADL AH clrK CallA apure aload bload appK ptrK fnK ares szOk planOk okOps
theorem rkinds_spec (v : Value) (l : List RG) (M : Mem) (hv : Sl M v 4 (rgs l)) (hg : ∀ r ∈ l, goodR r) (hl : l.length ≤ 64) :
  CallA Try.prog 14 [v] M fun r M' => Fr M M' [] ∧ ∃ w, r = .tuple ⟨[w, .int .i64 0]⟩ ∧ New M M' w 2 (pxs (kindsP l (uniq (begs l)))) := by
 have s0 := hv.isSl
 have n0 := hv.lnR
 have d64 : decide ((l.length : Int) > 64) = false := decide_eq_false (by omega)
 obtain ⟨ys, hys⟩ : ∃ ys, ys = uniq (begs l) := ⟨_, rfl⟩
 have lys : ys.length ≤ 129 := by have := begs_len l; have := uniq_length (begs l); rw [hys]; omega
 have gys : ∀ y ∈ ys, 0 ≤ y ∧ y ≤ 4294967295 := fun y hy => begs_good hg y (by rw [hys] at hy; exact uniq_mem.1 hy)
 rw [← hys]
 (refine CallA.of_body Try.func14 rfl (by rfl) ?_; simp only [Try.ntmps14, List.length_cons, List.length_nil, List.replicate, List.cons_append, List.nil_append, Nat.reduceSub, Nat.reduceAdd])
 (repeat (first | refine st ?_ | refine σa ?_ | (refine σb ?_; simp (disch := omega) only [push_cast, ↓reduceIte, reduceCtorEq, ν1, ν2, ν3, ν4, ν5, ζ1, ζ2, ζ3, ζ4, ζ5, s0, n0, d64, memE, boxE, buildE, lsE])))
 refine AW.loopF [4, 5, 7, 8, 9, 11, 15, 16, 17, 18, 19, 20, 21, 22, 23, 24, 25, 26, 27, 28, 29, 30, 31, 32, 33, 34, 35, 36, 37, 38, 39, 40, 41, 42, 43, 44, 45, 46, 47, 48, 49, 50, 51] (fun m g M' => ∃ n : Nat, g 5 = .int .i64 n ∧ n + m = 33 ∧ Fr M M' [] ∧ New M M' (g 4) 2 (pxs (kst l ys n 0))) 33 ?_ ?_
 ·exact ⟨0, rfl, by omega, Fr.refl _, New.nil M (by omega)⟩
 rintro m g M1 ⟨n, h5, hn, F1, N1⟩
 obtain ⟨out, h4⟩ : ∃ out, g 4 = out := ⟨_, rfl⟩
 rw [h4] at N1
 simp (disch := omega) only [push_cast, ↓reduceIte, reduceCtorEq, Nat.reduceAdd, Nat.reduceMul, Nat.reduceLeDiff, Nat.reduceLT, Nat.reduceSub, Int.reduceNe, Int.reduceEq, Int.reduceLE, Int.reduceLT, Int.reduceToNat, h5, h4]
 by_cases cn : n < 33
 rotate_left
 ·have d : decide ((n : Int) ≤ 32) = false := decide_eq_false (by omega)
  obtain rfl : n = 33 := by omega
  (repeat (first | refine st ?_ | refine σa ?_ | (refine σb ?_; simp (disch := omega) only [push_cast, ↓reduceIte, reduceCtorEq, ν1, ν2, ν3, ν4, ν5, ζ1, ζ2, ζ3, ζ4, ζ5, d, lsE])))
  ((first | refine retA.ret (by rfl) ?_ | refine retA.normal (by rfl) ?_); simp (disch := omega) only [push_cast, ↓reduceIte, reduceCtorEq, Nat.reduceAdd, Nat.reduceMul, Nat.reduceLeDiff, Nat.reduceLT, Nat.reduceSub, Int.reduceNe, Int.reduceEq, Int.reduceLE, Int.reduceLT, Int.reduceToNat])
  exact ⟨F1, out, rfl, N1⟩
 have d : decide ((n : Int) ≤ 32) = true := decide_eq_true (by omega)
 have wn : IntKind.i64.wrap ((n : Int) + 1) = ((n + 1 : Nat) : Int) := by rw [w_i64 (by omega) (by omega)]; rfl
 have hv1 := hv.keep F1 (by simp)
 (repeat (first | refine st ?_ | refine σa ?_ | (refine σb ?_; simp (disch := omega) only [push_cast, ↓reduceIte, reduceCtorEq, ν1, ν2, ν3, ν4, ν5, ζ1, ζ2, ζ3, ζ4, ζ5, d, lsE])))
 refine (rbegins_spec v l M1 hv1 hg hl).mono ?_
 rintro at' M2 ⟨F2, NA⟩
 rw [← hys] at NA
 have F12 := F1.tr F2
 have sA := NA.sl.isSl
 have nA := NA.sl.lnI
 have N2 := N1.keep F2 (by simp)
 (repeat (first | refine st ?_ | refine σa ?_ | (refine σb ?_; simp (disch := omega) only [push_cast, ↓reduceIte, reduceCtorEq, ν1, ν2, ν3, ν4, ν5, ζ1, ζ2, ζ3, ζ4, ζ5, sA, nA, lsE])))
 refine AW.loopF [4, 7, 8, 9, 11, 22, 23, 24, 25, 26, 27, 28, 29, 30, 31, 32, 33, 34, 35, 36, 37, 38, 39, 40, 41, 42, 43, 44, 45, 46, 47, 48, 49, 50, 51] (fun m g M' => ∃ i : Nat, g 22 = .int .i64 i ∧ i + m = ys.length ∧ Fr M2 M' (blkOf out) ∧ Fr M M' [] ∧ New M M' (g 4) 2 (pxs (kst l ys n i)) ∧ (∀ b ∈ blkOf (g 4), b ∈ blkOf out ∨ M2.length ≤ b)) ys.length ?_ ?_
 ·exact ⟨0, rfl, by omega, (Fr.refl M2).cut (by simp), F12, N2, fun b hb => .inl hb⟩
 rintro m2 g2 M3 ⟨i, h22, hi, F23, F3, N3, B3⟩
 obtain ⟨out2, h42⟩ : ∃ out2, g2 4 = out2 := ⟨_, rfl⟩
 rw [h42] at N3 B3
 simp (disch := omega) only [push_cast, ↓reduceIte, reduceCtorEq, Nat.reduceAdd, Nat.reduceMul, Nat.reduceLeDiff, Nat.reduceLT, Nat.reduceSub, Int.reduceNe, Int.reduceEq, Int.reduceLE, Int.reduceLT, Int.reduceToNat, h22, h42]
 have ndis : ∀ b ∈ blkOf at', b ∉ blkOf out := fun b hb hx => by have := NA.blk b hb; have := N1.sl.blks b hx; omega
 by_cases ci : i < ys.length
 rotate_left
 ·have d : decide ((i : Int) < (ys.length : Int)) = false := decide_eq_false (by omega)
  obtain rfl : i = ys.length := by omega
  (repeat (first | refine st ?_ | refine σa ?_ | (refine σb ?_; simp (disch := omega) only [push_cast, ↓reduceIte, reduceCtorEq, ν1, ν2, ν3, ν4, ν5, ζ1, ζ2, ζ3, ζ4, ζ5, d, lsE])))
  rw [kst_next] at N3
  refine ⟨rfl, m - 1, by omega, n + 1, ?_, by omega, F3, N3⟩
  show Value.int .i64 (IntKind.i64.wrap ((n : Int) + 1)) = _
  rw [wn]
 have d2 : decide ((i : Int) < (ys.length : Int)) = true := decide_eq_true (by omega)
 have eti : ((i : Nat) : Int).toNat = i := Int.toNat_natCast i
 have ldy := (NA.sl.keep F23 ndis).ldN (P := Try.prog) (ty := 30) (i := i) (by kernel_rfl) ci
 have lj : (i : Int) < (ys.length : Int) := by omega
 have l0 : (0 : Int) ≤ (i : Int) := by omega
 obtain ⟨y, hy⟩ : ∃ y, y = ys.getD i 0 := ⟨_, rfl⟩
 rw [← hy] at ldy
 have gy : 0 ≤ y ∧ y ≤ 4294967295 := by rw [hy]; exact gys _ (getD_mem ci)
 have hsu := kst_succ l ys n ci
 rw [← hy] at hsu
 have wi : IntKind.i64.wrap ((i : Int) + 1) = ((i + 1 : Nat) : Int) := by rw [w_i64 (by omega) (by omega)]; rfl
 (repeat (first | refine st ?_ | refine σa ?_ | (refine σb ?_; simp (disch := omega) only [push_cast, ↓reduceIte, reduceCtorEq, ν1, ν2, ν3, ν4, ν5, ζ1, ζ2, ζ3, ζ4, ζ5, d2, sA, nA, eti, lj, l0, ldy, memE, boxE, buildE, lsE])))
 refine (rcut_spec y (n : Int) M3 gy).mono ?_
 rintro r M4 ⟨F4, rfl⟩
 obtain ⟨p, hp⟩ : ∃ p, p = maskP (y, (n : Int)) := ⟨_, rfl⟩
 have gp : 0 ≤ p.1 ∧ p.1 ≤ 4294967295 := by rw [hp]; exact maskQ_good gy
 have p2 : p.2 = (n : Int) := by rw [hp]; show ((maskN (n : Int) : Nat) : Int) = n; rw [maskN_id (by omega)]
 rw [← hp] at hsu ⊢
 obtain ⟨K, hK⟩ : ∃ K, K = kst l ys n i := ⟨_, rfl⟩
 have lK : K.length ≤ 5000 := by
  have h1 := kst_len l ys n i (by omega)
  have h2 : n * ys.length ≤ 33 * 129 := Nat.mul_le_mul (by omega) lys
  rw [hK]; omega
 rw [← hK] at N3 hsu
 have gK : ∀ q ∈ K, 0 ≤ q.1 ∧ q.1 ≤ 4294967295 := by
  intro q hq
  rw [hK] at hq
  unfold kst at hq
  rw [← foldK_app] at hq
  rcases foldK_mem l _ _ q hq with h | h
  ·cases h
  ·rcases List.mem_append.1 h with h | h
   ·obtain ⟨n', _, h⟩ := List.mem_flatMap.1 h
    obtain ⟨a, ha, rfl⟩ := List.mem_map.1 h
    exact maskQ_good (gys a ha)
   ·obtain ⟨a, ha, rfl⟩ := List.mem_map.1 h
    exact maskQ_good (gys a (List.mem_of_mem_take ha))
 have N4 := N3.keep F4 (by simp)
 have s4 := N4.sl.isSl
 have n4 := N4.sl.lnX
 (repeat (first | refine st ?_ | refine σa ?_ | (refine σb ?_; simp (disch := omega) only [push_cast, ↓reduceIte, reduceCtorEq, ν1, ν2, ν3, ν4, ν5, ζ1, ζ2, ζ3, ζ4, ζ5, s4, n4, memE, boxE, boxE, buildE, lsE])))
 have Pp := Fr.push M4 (.box [.int .u32 p.1, .int .i64 (n : Int)])
 have Ap := At.push M4 (.box [.int .u32 p.1, .int .i64 (n : Int)])
 rw [← p2] at Pp Ap ⊢
 obtain ⟨pb, hpb⟩ : ∃ pb, pb = M4.length := ⟨_, rfl⟩
 rw [← hpb] at Ap ⊢
 have N5 := N4.keep Pp (by simp)
 have F45 := F4.tr Pp
 have hv5 := (hv.keep F3 (by simp)).keep F45 (by simp)
 generalize M4 ++ [Blk.box [.int .u32 p.1, .int .i64 p.2]] = M5 at *
 refine AW.loopF [9, 11, 33, 34, 35, 36, 37, 38, 39, 40, 41, 42, 43, 44] (fun m g M' => ∃ j : Nat, g 33 = .int .i64 j ∧ j + m = K.length ∧ Fr M5 M' [] ∧ g 9 = .bool (decide (kindR l p ∈ (K.take j).map (kindR l)))) K.length ?_ ?_
 ·exact ⟨0, rfl, by omega, Fr.refl _, by rw [List.take_zero]; rfl⟩
 rintro m3 g3 M6 ⟨j, h33, hj, F6, h9⟩
 obtain ⟨sn, hsn⟩ : ∃ sn, sn = decide (kindR l p ∈ (K.take j).map (kindR l)) := ⟨_, rfl⟩
 rw [← hsn] at h9
 simp (disch := omega) only [push_cast, ↓reduceIte, reduceCtorEq, Nat.reduceAdd, Nat.reduceMul, Nat.reduceLeDiff, Nat.reduceLT, Nat.reduceSub, Int.reduceNe, Int.reduceEq, Int.reduceLE, Int.reduceLT, Int.reduceToNat, h33, h9]
 have A6 := Ap.keep F6 (by simp)
 have N6 := N5.keep F6 (by simp)
 have hv6 := hv5.keep F6 (by simp)
 have F36 := F45.tr F6
 by_cases cj : j < K.length
 rotate_left
 ·have d : decide ((j : Int) < (K.length : Int)) = false := decide_eq_false (by omega)
  obtain rfl : j = K.length := by omega
  rw [List.take_length] at hsn
  cases hb : sn with
  | true =>
   rw [hb] at hsn
   have cm := of_decide_eq_true hsn.symm
   have hst : stepK l K p = K := by unfold stepK; rw [if_pos cm]
   rw [hst] at hsu
   (repeat (first | refine st ?_ | refine σa ?_ | (refine σb ?_; simp (disch := omega) only [push_cast, ↓reduceIte, reduceCtorEq, ν1, ν2, ν3, ν4, ν5, ζ1, ζ2, ζ3, ζ4, ζ5, d, Bool.not_true, lsE])))
   refine ⟨rfl, m2 - 1, by omega, i + 1, ?_, by omega, (F23.trans F36).cut (fun b hb _ => by simpa using hb), F3.tr F36, by rw [hsu]; exact N6, B3⟩
   show Value.int .i64 (IntKind.i64.wrap ((i : Int) + 1)) = _
   rw [wi]
  | false =>
   rw [hb] at hsn
   have cm := of_decide_eq_false hsn.symm
   have hst : stepK l K p = K ++ [p] := by unfold stepK; rw [if_neg cm]
   rw [hst] at hsu
   (repeat (first | refine st ?_ | refine σa ?_ | (refine σb ?_; simp (disch := omega) only [push_cast, ↓reduceIte, reduceCtorEq, ν1, ν2, ν3, ν4, ν5, ζ1, ζ2, ζ3, ζ4, ζ5, d, A6.ld, Bool.not_false, memE, boxE, buildE, lsE])))
   have Pr := Fr.push M6 (.row true 2 [.int .u32 p.1, .int .i64 p.2])
   have hr := New.row M6 (s := 2) (n := 1) (cs := [.int .u32 p.1, .int .i64 p.2]) (by omega) rfl rfl (by decide)
   refine appK.elems (P := Try.prog) (e := 32) (s := 2) (bt := 16) (z := [.int .u32 0, .int .i64 0]) (by kernel_rfl) (by kernel_rfl) (by kernel_rfl) rfl (by kernel_rfl) (by decide) (N6.1.keep Pr (by simp)) hr.sl (by rw [pxs_length]; show (K.length * 2 + 2) * _ ≤ _; omega) ?_
   intro w' MA NW FA
   have e2 : pxs K ++ [.int .u32 p.1, .int .i64 p.2] = pxs (K ++ [p]) := by rw [pxs_append]; rfl
   rw [e2] at NW
   (repeat (first | refine st ?_ | refine σa ?_ | (refine σb ?_; simp (disch := omega) only [push_cast, ↓reduceIte, reduceCtorEq, ν1, ν2, ν3, ν4, ν5, ζ1, ζ2, ζ3, ζ4, ζ5, lsE])))
   have l23 := F23.1
   have l36 := F36.1
   have l3 := F3.1
   have lr := Pr.1
   refine ⟨rfl, m2 - 1, by omega, i + 1, ?_, by omega, (((F23.trans F36).trans Pr).trans FA).cut (fun b hb hlt => ?_), (((F3.tr F36).tr Pr).trans FA).cut (fun b hb hlt => ?_), ?_, ?_⟩
   ·show Value.int .i64 (IntKind.i64.wrap ((i : Int) + 1)) = _
    rw [wi]
   ·simp at hb
    rcases hb with h | h
    ·exact h
    ·rcases B3 b h with h | h
     ·exact h
     ·omega
   ·have := N3.blk b (by simpa using hb); omega
   ·rw [hsu]
    exact ⟨NW.1, fun a b c h h0 => Nat.le_trans (by omega) (NW.2 a b c h h0)⟩
   ·intro b hb
    have := NW.blk b hb
    exact .inr (by omega)
 have d3 : decide ((j : Int) < (K.length : Int)) = true := decide_eq_true (by omega)
 have etj : ((j : Nat) : Int).toNat = j := Int.toNat_natCast j
 have lj3 : (j : Int) < (K.length : Int) := by omega
 have l03 : (0 : Int) ≤ (j : Int) := by omega
 have wj : IntKind.i64.wrap ((j : Int) + 1) = ((j + 1 : Nat) : Int) := by rw [w_i64 (by omega) (by omega)]; rfl
 obtain ⟨q, hq⟩ : ∃ q, q = K.getD j (0, 0) := ⟨_, rfl⟩
 have hKj : K[j]? = some q := by rw [hq, List.getD_eq_getElem?_getD, List.getElem?_eq_getElem cj]; rfl
 have gq := gK q (List.mem_of_getElem? hKj)
 have ldq := N6.sl.ldX cj
 rw [← hq] at ldq
 have hmem : kindR l p ∈ (K.take (j + 1)).map (kindR l) ↔ kindR l p ∈ (K.take j).map (kindR l) ∨ kindR l p = kindR l q := by
  rw [List.take_add_one, hKj, Option.toList_some, List.map_append, List.mem_append, List.map_cons, List.map_nil, List.mem_singleton]
 have Fq := Fr.push M6 (.box [.int .u32 q.1, .int .i64 q.2])
 have Aq := At.push M6 (.box [.int .u32 q.1, .int .i64 q.2])
 have A7 := A6.keep Fq (by simp)
 cases hb : sn with
 | true =>
  rw [hb] at hsn
  have cm := of_decide_eq_true hsn.symm
  (repeat (first | refine st ?_ | refine σa ?_ | (refine σb ?_; simp (disch := omega) only [push_cast, ↓reduceIte, reduceCtorEq, ν1, ν2, ν3, ν4, ν5, ζ1, ζ2, ζ3, ζ4, ζ5, d3, s4, n4, etj, lj3, l03, ldq, memE, boxE, boxE, buildE, lsE])))
  refine ⟨rfl, m3 - 1, by omega, j + 1, ?_, by omega, F6.tr Fq, ?_⟩
  ·show Value.int .i64 (IntKind.i64.wrap ((j : Int) + 1)) = _
   rw [wj]
  ·show Value.bool true = _
   rw [decide_eq_true (hmem.2 (.inl cm))]
 | false =>
  rw [hb] at hsn
  have cm := of_decide_eq_false hsn.symm
  (repeat (first | refine st ?_ | refine σa ?_ | (refine σy ?_; simp (disch := omega) only [push_cast, ↓reduceIte, reduceCtorEq, ν1, ν2, ν3, ν4, ν5, ζ1, ζ2, ζ3, ζ4, ζ5, d3, s4, n4, etj, lj3, l03, ldq, memE, boxE, boxE, buildE, lsE]) | (refine AL.pu rfl ?_; simp (disch := omega) only [push_cast, ↓reduceIte, reduceCtorEq, ν1, ν2, ν3, ν4, ν5, ζ1, ζ2, ζ3, ζ4, ζ5, d3, s4, n4, etj, lj3, l03, ldq, memE, boxE, boxE, buildE, lsE]; refine id (α := AL _ _ _ _ _ _) ?_)))
  simp (disch := omega) only [push_cast, ↓reduceIte, reduceCtorEq, Nat.reduceAdd, Nat.reduceMul, Nat.reduceLeDiff, Nat.reduceLT, Nat.reduceSub, Int.reduceNe, Int.reduceEq, Int.reduceLE, Int.reduceLT, Int.reduceToNat, A7.ld, Aq.ld, memE, boxE, buildE]
  (repeat (first | refine st ?_ | refine σa ?_ | (refine σb ?_; simp (disch := omega) only [push_cast, ↓reduceIte, reduceCtorEq, ν1, ν2, ν3, ν4, ν5, ζ1, ζ2, ζ3, ζ4, ζ5, A7.ld, Aq.ld, memE, boxE, buildE, lsE])))
  refine (ralike_spec v l p q _ (hv6.keep Fq (by simp)) hg (by omega) gp gq).mono ?_
  rintro r M8 ⟨F8, rfl⟩
  (repeat (first | refine st ?_ | refine σa ?_ | (refine σb ?_; simp (disch := omega) only [push_cast, ↓reduceIte, reduceCtorEq, ν1, ν2, ν3, ν4, ν5, ζ1, ζ2, ζ3, ζ4, ζ5, lsE])))
  refine ⟨rfl, m3 - 1, by omega, j + 1, ?_, by omega, (F6.tr Fq).tr F8, ?_⟩
  ·show Value.int .i64 (IntKind.i64.wrap ((j : Int) + 1)) = _
   rw [wj]
  ·show Value.bool (decide (kindR l p = kindR l q)) = _
   congr 1
   rw [Bool.eq_iff_iff, decide_eq_true_eq, decide_eq_true_eq, hmem]
   exact ⟨.inr, fun h => h.resolve_left cm⟩
end Go.Proofs.Ytbdejnnbpdgjlaa.Ax
namespace Go.Proofs.Ytbdejnnbpdgjlaa.Ax
open Go Go.RowKit
set_option linter.unusedVariables false
set_option linter.unusedSimpArgs false
set_option maxRecDepth 100000
set_option maxHeartbeats 20000000
section
variable {P : Program} {o : Oper} {ρ : Operand → Value} {M : Mem} {K : Value → Mem → Prop}
theorem fresh_mk {t e : TypeId} {x y : Operand} (ho : o.op = .makeSlice t x y) {s n l bt : Nat} {k k' : IntKind} {z : List Value} (hu : P.underlying t = some (.slice e)) (hs : tsz P e = some s) (h0 : 0 < s) (hz : tzero P e = some z) (hzl : z.length = s) (hb : tby P e = some bt)
  (hx : ρ x = .int k l) (hy : ρ y = .int k' n) (hl : l ≤ n) (hn : n * bt ≤ 140737488355328) (hn2 : n ≤ 140737488355328) : FreshA P o ρ (.row true s (zerosOf z n)) fun b => .slice (some ⟨b, 0, none⟩) l n := by
 intro ι N0 ρ' b w hN hb' hr
 have hrx := hr x (by rw [ho]; simp [Op.operands])
 have hry := hr y (by rw [ho]; simp [Op.operands])
 rw [hx] at hrx
 rw [hy] at hry
 generalize hx' : ρ' x = x' at hrx
 generalize hy' : ρ' y = y' at hry
 cases hrx
 cases hry
 obtain ⟨i, hi, rfl⟩ : ∃ i, P.info? e = some i ∧ i.bytes = bt := by
  unfold tby at hb
  obtain ⟨i, hi, h⟩ := Option.map_eq_some_iff.1 hb
  exact ⟨i, hi, h⟩
 obtain ⟨zv, hz1, hz2⟩ := run_zero hz w
 have hzs : zv.cells.size = s := by rw [← hzl, ← hz1]; simp
 have hsz : i.size = s := by unfold tsz at hs; rw [hi] at hs; simpa using hs
 have wl : IntKind.i64.wrap (l : Int) = l := by rw [IntKind.wrap_i64]; omega
 have wn : IntKind.i64.wrap (n : Int) = n := by rw [IntKind.wrap_i64]; omega
 have hbn : (i.bytes : Int) * n ≤ 140737488355328 := by
  have h : ((n * i.bytes : Nat) : Int) ≤ 140737488355328 := by omega
  rw [Int.natCast_mul] at h
  rw [Int.mul_comm]; exact h
 have n1 : ¬ (n : Int) < 0 := by omega
 have n2 : ¬ (281474976710656 : Int) < (i.bytes : Int) * n := by omega
 have n3 : ¬ (l : Int) < 0 := by omega
 have n4 : ¬ (n : Int) < l := by omega
 obtain ⟨cs', hrun, hcs⟩ : ∃ cs' : Array Value, (execOp ρ' o).run P w = .ok (.value (.slice (some ⟨w.heap.size, 0, none⟩) l n)) (w.alloc (.cells cs' e)) ∧ cs'.toList = zerosOf z n := by
  by_cases h0n : n * s = 0
  ·have hn0 : n = 0 := by
    rcases Nat.mul_eq_zero.1 h0n with h | h
    ·exact h
    ·omega
   refine ⟨#[], ?_, by rw [hn0]; rfl⟩
   obtain rfl : l = 0 := by omega
   subst hn0
   have w0 : IntKind.i64.wrap 0 = 0 := by decide
   simp [execOp, ho, hx', hy', Instr.makeSlice, run_underlying hu, asInt, asIntOf, run_info hi, run_size hs, w0, newRow, run_newObj]
   rw [show Array.map (fun _ => (default : Value)) (Array.range 0) = #[] from by apply Array.ext'; simp]
  ·refine ⟨(Array.range (n * s)).map fun i => zv.cells[i % zv.cells.size]!, ?_, ?_⟩
   ·simp [execOp, ho, hx', hy', Instr.makeSlice, run_underlying hu, asInt, asIntOf, run_info hi, run_size hs, wl, wn, n1, n2, n3, n4, h0n, hz2, newRow, run_newObj]
   ·have h1 : n * s % zv.cells.size = 0 := by rw [hzs]; simp
    rw [zeros_eq h1 (by omega), hzs, hz1, Nat.mul_div_cancel _ h0]
 have hflat := zerosOf_flat (zero_flat hz) n
 have hlen : cs'.size = n * s := by
  have : cs'.toList.length = n * s := by rw [hcs, zerosOf_length, hzl]
  simpa using this
 let lc : Loc := ⟨w.heap.size, 0, cs'.size, s⟩
 have hub : (ι.upd b lc) b = some lc := by simp [Inj.upd]
 refine ⟨.cells cs' e, .slice (some ⟨w.heap.size, 0, none⟩) l n, lc, hrun, rfl, ?_, ?_⟩
 ·refine .slice b 0 l n n lc _ hub hl (.inl rfl) (.inr ⟨rfl, ?_⟩)
  simp [lc, hlen]
 ·refine ⟨hb', rfl, cs', e, alloc_get _ _, by simp [lc, hlen, zerosOf_length, hzl], by simp [lc], ?_⟩
  intro j v hj
  obtain ⟨v', h3, h4⟩ := (LRel.of_flat (ι := ι) hflat).get hj
  refine ⟨v', ?_, h4.mono (Inj.upd_le (l := lc) hN)⟩
  rw [← hcs] at h3
  simpa [lc] using h3
theorem AOp.copy {t t' e e' : TypeId} {x y : Operand} (ho : o.op = .call { callee := .builtin .copy, args := #[x, y], argTypes := #[t, t'] }) (ht : P.underlying t = some (.slice e)) (ht' : P.underlying t' = some (.slice e')) (hs : tsz P e = some 1)
  {b off n c : Nat} (hx : ρ x = .slice (some ⟨b, off, none⟩) n c) {cc ds : List Value} (hB : M[b]? = some (.row true 1 cc)) (hy : Sl M (ρ y) 1 ds) (hn : ds.length ≤ n) (h0 : 0 < ds.length) (hle : off + ds.length ≤ cc.length)
  (hk : K (.int .i64 ds.length) (M.set b (.row true 1 (spl cc off ds)))) : AOp P o ρ M K := by
 intro ι N0 a w KC QC hor hm hc
 have hrx := hor x (by rw [ho]; simp [Op.operands, Call.operands])
 have hry := hor y (by rw [ho]; simp [Op.operands, Call.operands])
 obtain ⟨ds', hds, hsrc⟩ := hy.src hm hry ht'
 have hdl := hy.len
 rw [hx] at hrx
 generalize hz : a.eval x = z at hrx
 cases hrx with
 | slice _ _ _ _ cap' l a' hbl hle' hcap ha =>
  obtain ⟨rfl, hlim⟩ := ha.resolve_left (by omega)
  have hne : ds ≠ [] := List.length_pos_iff.1 h0
  obtain ⟨cc', e2, hg, hle2, hB'⟩ := (hm.blk b _ l hB hbl).stored rfl hne hle hds
  have hst := run_storeCells_at P l.g (l.base + off) e2 ds' 0 cc' w hg (by simpa using hle2) hsrc.one
  simp only [Nat.add_zero] at hst
  have hl2 : ds'.length = ds.length := hds.length.symm
  have hsl : sln (ρ y) = ds.length := by omega
  have hln := hsrc.len
  have hcl := hsrc.cells
  rw [hsl] at hln hcl
  have hmin : Nat.min ds.length n = ds.length := Nat.min_eq_left hn
  unfold Oper.wp
  have hrun : (execOp a.eval o).run P w = .ok (.value (.int .i64 ds.length)) (w.setRow l.g (cc'.toList.take (l.base + off) ++ ds' ++ cc'.toList.drop (l.base + off + ds'.length)).toArray) := by
   simp [execOp, ho, hz, resolve, invoke, builtin, Builtin.copy_, run_underlying ht, run_size hs, hln, hmin, hcl, hst, goInt]
  rw [hrun]
  have hw : ∀ g, g ≠ l.g → (w.setRow l.g (cc'.toList.take (l.base + off) ++ ds' ++ cc'.toList.drop (l.base + off + ds'.length)).toArray).heap[g]? = w.heap[g]? := fun g hg => setRow_other w l.g g _ hg
  exact hc _ _ _ ι _ (VRel.int _ _) (hm.turn hB rfl hbl hw (by simp) hB') (Ext.turn hm hB rfl hbl hw (by simp) rfl rfl rfl) hk
end
def mkK (P : Program) (ty : TypeId) (x y : Value) (C : Nat → Nat → Nat → List Value → Prop) : Prop := ∃ e s z bt k k' l n, P.underlying ty = some (.slice e) ∧ tsz P e = some s ∧ 0 < s ∧ tzero P e = some z ∧ z.length = s ∧ tby P e = some bt ∧
 x = .int k ((l : Nat) : Int) ∧ y = .int k' ((n : Nat) : Int) ∧ l ≤ n ∧ n * bt ≤ 140737488355328 ∧ n ≤ 140737488355328 ∧ C l n s (zerosOf z n)
theorem zerosOf_one (v : Value) (n : Nat) : zerosOf [v] n = List.replicate n v := by
 unfold zerosOf
 induction n with
 | zero => rfl
 | succ n ih => simp [List.replicate_succ, ih]
theorem mkK.ints {P : Program} {ty e bt : Nat} {k k1 k2 : IntKind} {C : Nat → Nat → Nat → List Value → Prop} {l n : Nat} (hu : P.underlying ty = some (.slice e)) (hs : tsz P e = some 1) (hz : tzero P e = some [.int k 0]) (hb : tby P e = some bt)
  (hl : l ≤ n) (hn : n * bt ≤ 140737488355328) (hn2 : n ≤ 140737488355328) (h : C l n 1 (Ax.ints k (List.replicate n 0))) : mkK P ty (.int k1 l) (.int k2 n) C := by
 refine ⟨e, 1, [.int k 0], bt, k1, k2, l, n, hu, hs, by omega, hz, rfl, hb, rfl, rfl, hl, hn, hn2, ?_⟩
 rw [zerosOf_one]
 have : Ax.ints k (List.replicate n 0) = List.replicate n (.int k 0) := by simp [Ax.ints]
 rw [this] at h
 exact h
def cpK (P : Program) (ty ty' : TypeId) (x y : Value) (M : Mem) (C : Value → Mem → Prop) : Prop := ∃ e e' b off n c cc ds, P.underlying ty = some (.slice e) ∧ P.underlying ty' = some (.slice e') ∧ tsz P e = some 1 ∧ x = .slice (some ⟨b, off, none⟩) n c ∧ M[b]? = some (.row true 1 cc) ∧
 Sl M y 1 ds ∧ ds.length ≤ n ∧ 0 < ds.length ∧ off + ds.length ≤ cc.length ∧ C (.int .i64 ds.length) (M.set b (.row true 1 (spl cc off ds)))
section
variable {P : Program} {ops : Array Oper} {todo done : List Nat} {Ls : List (Nat × LP)} {rest : List Oper} {K : List Value → Mem → Prop} {t : List Value} {M : Mem}
variable {i : Nat} {dst : Option Tmp} {type : TypeId} {pos : String} {after : Array Edge}
theorem AL.mk {ty : TypeId} {x y : Operand} (hok : okOpds ⟨dst, .makeSlice ty x y, type, pos, after, none⟩ = true)
  (h : mkK P ty (ev t x) (ev t y) fun l n s cs => AL P ops rest K (putT t dst (.slice (some ⟨M.length, 0, none⟩) l n)) (M ++ [.row true s cs])) : AL P ops (⟨dst, .makeSlice ty x y, type, pos, after, none⟩ :: rest) K t M := by
 obtain ⟨e, s, z, bt, k, k', l, n, hu, hs, h0, hz, hzl, hb, hx, hy, hl, hn, hn2, hc⟩ := h
 exact AL.op hok rfl (AOp.fresh (fresh_mk rfl hu hs h0 hz hzl hb hx hy hl hn hn2) hc)
theorem AH.mk {ty : TypeId} {x y : Operand} (hok : okOpds ⟨dst, .makeSlice ty x y, type, pos, after, none⟩ = true)
  (h : mkK P ty (ev t x) (ev t y) fun l n s cs => ADL P ops todo (i :: done) Ls K (putT t dst (.slice (some ⟨M.length, 0, none⟩) l n)) (M ++ [.row true s cs])) : AH P ops dst (.makeSlice ty x y) type pos after none i todo done Ls K t M := fun ho => by
 obtain ⟨e, s, z, bt, k, k', l, n, hu, hs, h0, hz, hzl, hb, hx, hy, hl, hn, hn2, hc⟩ := h
 exact ADL.fr ho rfl hok rfl (fresh_mk rfl hu hs h0 hz hzl hb hx hy hl hn hn2) hc
theorem AL.cp {ty ty' : TypeId} {x y : Operand} (hok : okOpd x = true) (hok' : okOpd y = true)
  (h : cpK P ty ty' (ev t x) (ev t y) M fun v M' => AL P ops rest K (putT t dst v) M') : AL P ops (⟨dst, .call { callee := .builtin .copy, args := ⟨[x, y]⟩, argTypes := ⟨[ty, ty']⟩ }, type, pos, after, none⟩ :: rest) K t M := by
 obtain ⟨e, e', b, off, n, c, cc, ds, hu, hu', hs, hx, hB, hy, hn, h0, hle, hc⟩ := h
 exact AL.op (by simp [okOpds, calmOp, Op.operands, Call.operands, hok, hok']) rfl (AOp.copy rfl hu hu' hs hx hB hy hn h0 hle hc)
theorem AH.cpN {ty ty' : TypeId} {x y : Operand} (hok : okOpd x = true) (hok' : okOpd y = true) (hL : (Ls.map Prod.fst).all (fun x => bef ops x i) = true)
  (h : cpK P ty ty' (ev t x) (ev t y) M fun v M' => ADL P ops todo (i :: done) [] K (putT t dst v) M') : AH P ops dst (.call { callee := .builtin .copy, args := ⟨[x, y]⟩, argTypes := ⟨[ty, ty']⟩ }) type pos after none i todo done Ls K t M := fun ho => by
 obtain ⟨e, e', b, off, n, c, cc, ds, hu, hu', hs, hx, hB, hy, hn, h0, hle, hc⟩ := h
 refine ADL.ef ho rfl (by simp [okOpds, calmOp, Op.operands, Call.operands, hok, hok']) rfl ((AOp.copy (K := fun v M' => ADL P ops todo (i :: done) [] K (putT t dst v) M') rfl hu hu' hs hx hB hy hn h0 hle hc).mono fun v M' h => ?_)
 rw [filt_none hL]
 exact ⟨by simp, h⟩
end
end Go.Proofs.Ytbdejnnbpdgjlaa.Ax
