/- Contracts of functions over the abstract machine. No conditions: lemmas alone. -/
import Derived.Test.YtbdejnnbpdgjlaaPfxKLibD
import Derived.Test.YtbdejnnbpdgjlaaPfxKP0
import Derived.Test.YtbdejnnbpdgjlaaPfxKP8
import Derived.Test.YtbdejnnbpdgjlaaPfxKP4
namespace Go.Proofs.Ytbdejnnbpdgjlaa.Ax
open Go Go.RowKit
open Nat renaming reduceAdd → ν1, reduceMul → ν2, reduceLeDiff → ν3, reduceLT → ν4, reduceSub → ν5
open Int renaming reduceNe → ζ1, reduceEq → ζ2, reduceLE → ζ3, reduceLT → ζ4, reduceToNat → ζ5
set_option linter.unusedVariables false
set_option linter.unusedSimpArgs false
set_option maxRecDepth 100000
set_option maxHeartbeats 20000000
attribute [local irreducible] thenA blockA scopeA retA AL AW AD ADL AH clrK CallA apure aload bload appK ptrK fnK ares szOk planOk okOps
end Go.Proofs.Ytbdejnnbpdgjlaa.Ax
namespace Go.Proofs.Ytbdejnnbpdgjlaa.Ax
open Go Go.RowKit
set_option linter.unusedVariables false
set_option linter.unusedSimpArgs false
set_option maxRecDepth 100000
set_option maxHeartbeats 20000000
def insU (x : Int) : List Int → List Int
 | [] => [x]
 | y :: l => if x < y then x :: y :: l else if x = y then y :: l else y :: insU x l
def uniq (xs : List Int) : List Int := xs.foldl (fun l x => insU x l) []
theorem insU_mem {x z : Int} : ∀ {l : List Int}, z ∈ insU x l ↔ z = x ∨ z ∈ l
 | [] => by simp [insU]
 | y :: l => by
  unfold insU
  split
  ·simp
  ·split
   ·rename_i h; subst h; simp
   ·rw [List.mem_cons, insU_mem (l := l), List.mem_cons]
    constructor
    ·rintro (h | h | h)
     ·exact .inr (.inl h)
     ·exact .inl h
     ·exact .inr (.inr h)
    ·rintro (h | h | h)
     ·exact .inr (.inl h)
     ·exact .inl h
     ·exact .inr (.inr h)
theorem insU_rise {x : Int} : ∀ {l : List Int}, l.Pairwise (· < ·) → (insU x l).Pairwise (· < ·)
 | [], _ => by simp [insU]
 | y :: l, h => by
  unfold insU
  obtain ⟨h1, h2⟩ := List.pairwise_cons.1 h
  split
  ·rename_i hx
   refine List.pairwise_cons.2 ⟨fun z hz => ?_, h⟩
   rcases List.mem_cons.1 hz with rfl | hz
   ·exact hx
   ·have := h1 z hz; omega
  ·split
   ·exact h
   ·refine List.pairwise_cons.2 ⟨fun z hz => ?_, insU_rise h2⟩
    rcases insU_mem.1 hz with rfl | hz
    ·omega
    ·exact h1 z hz
theorem uniq_fold : ∀ (xs l : List Int), l.Pairwise (· < ·) → (xs.foldl (fun l x => insU x l) l).Pairwise (· < ·) ∧ ∀ z, z ∈ xs.foldl (fun l x => insU x l) l ↔ z ∈ l ∨ z ∈ xs
 | [], l, h => ⟨h, by simp⟩
 | x :: xs, l, h => by
  obtain ⟨h1, h2⟩ := uniq_fold xs (insU x l) (insU_rise h)
  refine ⟨h1, fun z => ?_⟩
  rw [List.foldl_cons, h2, insU_mem, List.mem_cons]
  constructor
  ·rintro ((h | h) | h)
   ·exact .inr (.inl h)
   ·exact .inl h
   ·exact .inr (.inr h)
  ·rintro (h | h | h)
   ·exact .inl (.inr h)
   ·exact .inl (.inl h)
   ·exact .inr h
theorem uniq_rise (xs : List Int) : (uniq xs).Pairwise (· < ·) := (uniq_fold xs [] .nil).1
theorem uniq_mem {xs : List Int} {z : Int} : z ∈ uniq xs ↔ z ∈ xs := by unfold uniq; rw [(uniq_fold xs [] .nil).2]; simp
theorem uniq_length (xs : List Int) : (uniq xs).length ≤ xs.length := by
 have key : ∀ (xs l : List Int), (xs.foldl (fun l x => insU x l) l).length ≤ l.length + xs.length := by
  have one : ∀ (x : Int) (l : List Int), (insU x l).length ≤ l.length + 1 := by
   intro x l
   induction l with
   | nil => simp [insU]
   | cons y l ih =>
    unfold insU
    split
    ·simp
    split <;> simp; omega
  intro xs
  induction xs with
  | nil => intro l; simp
  | cons x xs ih => intro l; rw [List.foldl_cons]; have := ih (insU x l); have := one x l; simp; omega
 have := key xs []
 simpa [uniq] using this
theorem Sl.boxSet {M : Mem} {v : Value} {k : Nat} {cs : List Value} {s : Nat} {B : Blk} (h : Sl M v k cs) (hs : s ∉ blkOf v) : Sl (M.set s B) v k cs := h.keep (Fr.set M s B) (by intro b hb hx; simp at hx; subst hx; exact hs hb)
end Go.Proofs.Ytbdejnnbpdgjlaa.Ax
namespace Go.Proofs.Ytbdejnnbpdgjlaa.Ax
open Go Go.RowKit
open Nat renaming reduceAdd → ν1, reduceMul → ν2, reduceLeDiff → ν3, reduceLT → ν4, reduceSub → ν5
open Int renaming reduceNe → ζ1, reduceEq → ζ2, reduceLE → ζ3, reduceLT → ζ4, reduceToNat → ζ5
set_option linter.unusedVariables false
set_option linter.unusedSimpArgs false
set_option maxRecDepth 100000
set_option maxHeartbeats 20000000
attribute [local irreducible] thenA blockA scopeA retA AL AW AD ADL AH clrK CallA apure aload bload appK ptrK fnK ares szOk planOk okOps
def AVval (M : Mem) (w : Value) (a : AV) : Prop := ∃ p c, w = .agg ⟨[.int .i64 a.origin, p, .int .u32 a.hop, .int .u32 a.med, .int .u32 a.pref, .bool a.hasMed, .bool a.hasPref, c]⟩ ∧ Sl M p 1 (ints .u32 a.path) ∧ Sl M c 1 (ints .u32 a.comms)
def AVnew (lo : Nat) (M : Mem) (w : Value) (a : AV) : Prop := ∃ p c, w = .agg ⟨[.int .i64 a.origin, p, .int .u32 a.hop, .int .u32 a.med, .int .u32 a.pref, .bool a.hasMed, .bool a.hasPref, c]⟩ ∧ Sl M p 1 (ints .u32 a.path) ∧ Sl M c 1 (ints .u32 a.comms) ∧ (∀ b ∈ blkOf p, lo ≤ b) ∧ ∀ b ∈ blkOf c, lo ≤ b
theorem AVnew.val {lo : Nat} {M : Mem} {w : Value} {a : AV} (h : AVnew lo M w a) : AVval M w a := by obtain ⟨p, c, e, h1, h2, _, _⟩ := h; exact ⟨p, c, e, h1, h2⟩
theorem insU_at {x : Int} : ∀ {l : List Int} {n : Nat}, (∀ q, q < n → l.getD q 0 < x) → n ≤ l.length → insU x l = l.take n ++ insU x (l.drop n)
 | _, 0, _, _ => by simp
 | [], n + 1, _, h => by simp at h
 | y :: l, n + 1, h, hn => by
  have h0 : y < x := h 0 (by omega)
  rw [insU, if_neg (by omega), if_neg (by omega), insU_at (l := l) (n := n) (fun q hq => h (q + 1) (by omega)) (by simpa using hn)]
  rfl
theorem uniq_snoc {xs : List Int} {i : Nat} (h : i < xs.length) : uniq (xs.take (i + 1)) = insU (xs.getD i 0) (uniq (xs.take i)) := by
 rw [take_snocI h]; simp [uniq, List.foldl_append]
theorem drop_cons {l : List Int} {n : Nat} (h : n < l.length) : l.drop n = l.getD n 0 :: l.drop (n + 1) := by
 rw [List.drop_eq_getElem_cons h, getD_lt h]
theorem sorted_spec (v : Value) (xs : List Int) (M : Mem) (hv : Sl M v 1 (ints .u32 xs)) (hl : xs.length ≤ 100000) : CallA Try.prog 80 [v] M fun r M' => Fr M M' [] ∧ New M M' r 1 (ints .u32 (uniq xs)) := by
 have hs := hv.isSl
 have hn := hv.lnI
 (refine CallA.of_body Try.func80 rfl (by rfl) ?_; simp only [Try.ntmps80, List.length_cons, List.length_nil, List.replicate, List.cons_append, List.nil_append, Nat.reduceSub, Nat.reduceAdd])
 (repeat (first | refine st ?_ | refine σa ?_ | (refine σb ?_; simp (disch := omega) only [push_cast, ↓reduceIte, reduceCtorEq, ν1, ν2, ν3, ν4, ν5, ζ1, ζ2, ζ3, ζ4, ζ5, hs, hn])))
 refine AW.loopF [3, 5, 6, 7, 10, 11, 12, 13, 14, 15, 16, 17, 18, 19, 20, 21, 22, 23, 24, 25, 26, 27, 28, 29, 30, 31, 32, 33, 34, 35, 36, 37, 38, 39, 40, 41, 42, 43, 44, 45, 46, 47, 48, 49, 50, 51, 52, 53, 54, 55, 56, 57, 58, 59, 60, 61, 62, 63] (fun m g M' => ∃ i : Nat, g 10 = .int .i64 i ∧ ∃ o, g 3 = o ∧ i + m = xs.length ∧ Fr M M' [] ∧ New M M' o 1 (ints .u32 (uniq (xs.take i)))) xs.length ?_ ?_
 ·exact ⟨0, rfl, .slice none 0 0, rfl, by omega, Fr.refl M, New.nil M (by omega)⟩
 rintro m g M1 ⟨i, h10, o, h3, hi, hF, hN⟩
 simp (disch := omega) only [push_cast, ↓reduceIte, reduceCtorEq, Nat.reduceAdd, Nat.reduceMul, Nat.reduceLeDiff, Nat.reduceLT, Nat.reduceSub, Int.reduceNe, Int.reduceEq, Int.reduceLE, Int.reduceLT, Int.reduceToNat, h10, h3]
 (repeat (first | refine st ?_ | refine σa ?_ | (refine σb ?_; simp (disch := omega) only [push_cast, ↓reduceIte, reduceCtorEq, ν1, ν2, ν3, ν4, ν5, ζ1, ζ2, ζ3, ζ4, ζ5])))
 ((first | refine AL.gu rfl (fun hlt => ?_) (fun hlt => ?_) | refine AW.condS rfl rfl (fun hlt => ?_) (fun hlt => ?_)) <;> (try (have hlt' := hlt; simp only [Bool.not_eq_true', Bool.not_eq_false', Bool.not_true, Bool.not_false, decide_eq_true_eq, decide_eq_false_iff_not, Classical.not_not, Int.not_lt, Int.not_le, gt_iff_lt, ge_iff_le, beq_iff_eq] at hlt')))
 ·have hil : i < xs.length := by omega
  have hv1 := hv.keep hF (by simp)
  have l1 := hv1.ldN (P := Try.prog) (ty := 30) (i := i) (by kernel_rfl) hil
  have hsnoc := uniq_snoc hil
  have hul : (uniq (xs.take i)).length ≤ i := Nat.le_trans (uniq_length _) (by rw [List.length_take]; omega)
  generalize hx : xs.getD i 0 = x at *
  generalize uniq (xs.take i) = l at *
  have hso := hN.sl.isSl
  have hno := hN.sl.lnI
  (repeat (first | refine st ?_ | refine σa ?_ | (refine σb ?_; simp (disch := omega) only [push_cast, ↓reduceIte, reduceCtorEq, ν1, ν2, ν3, ν4, ν5, ζ1, ζ2, ζ3, ζ4, ζ5, hs, hn, l1, Int.toNat_natCast])))
  refine AW.loopX 2 [6, 14, 15, 16, 17, 18, 19, 20, 21, 22, 23, 24, 25, 26, 27] (fun m' g M' => ∃ q : Nat, g 6 = .int .i64 q ∧ q + m' = l.length ∧ M' = M1 ∧ ∀ p, p < q → l.getD p 0 < x)
   (fun g M' => ∃ q : Nat, g 6 = .int .i64 q ∧ q ≤ l.length ∧ M' = M1 ∧ (∀ p, p < q → l.getD p 0 < x) ∧ (q < l.length → x ≤ l.getD q 0)) l.length ?_ ?_ ?_
  ·exact ⟨0, rfl, by omega, rfl, fun p h => by omega⟩
  ·rintro m1 g1 M2 ⟨q, h6, hq, rfl, hp⟩
   simp (disch := omega) only [push_cast, ↓reduceIte, reduceCtorEq, Nat.reduceAdd, Nat.reduceMul, Nat.reduceLeDiff, Nat.reduceLT, Nat.reduceSub, Int.reduceNe, Int.reduceEq, Int.reduceLE, Int.reduceLT, Int.reduceToNat, h6]
   by_cases hql : q < l.length
   ·have hd : decide ((q : Int) < l.length) = true := decide_eq_true (by omega)
    have l2 := hN.sl.ldN (P := Try.prog) (ty := 30) (i := q) (by kernel_rfl) hql
    (repeat (first | refine st ?_ | refine σa ?_ | (refine σb ?_; simp (disch := omega) only [push_cast, ↓reduceIte, reduceCtorEq, ν1, ν2, ν3, ν4, ν5, ζ1, ζ2, ζ3, ζ4, ζ5, hso, hno, hd, l2, Int.toNat_natCast])))
    ((first | refine AL.gu rfl (fun hc => ?_) (fun hc => ?_) | refine AW.condS rfl rfl (fun hc => ?_) (fun hc => ?_)) <;> (try (have hc' := hc; simp only [Bool.not_eq_true', Bool.not_eq_false', Bool.not_true, Bool.not_false, decide_eq_true_eq, decide_eq_false_iff_not, Classical.not_not, Int.not_lt, Int.not_le, gt_iff_lt, ge_iff_le, beq_iff_eq] at hc')))
    ·(repeat (first | refine st ?_ | refine σa ?_ | (refine σb ?_; simp (disch := omega) only [push_cast, ↓reduceIte, reduceCtorEq, ν1, ν2, ν3, ν4, ν5, ζ1, ζ2, ζ3, ζ4, ζ5, w_i64])))
     refine ⟨rfl, m1 - 1, by omega, q + 1, rfl, by omega, rfl, fun p h => ?_⟩
     by_cases e : p = q
     ·rw [e]; exact hc'
     ·exact hp p (by omega)
    ·(repeat (first | refine st ?_ | refine σa ?_ | (refine σb ?_; simp (disch := omega) only [push_cast, ↓reduceIte, reduceCtorEq, ν1, ν2, ν3, ν4, ν5, ζ1, ζ2, ζ3, ζ4, ζ5])))
     exact ⟨rfl, q, rfl, by omega, rfl, hp, fun _ => hc'⟩
   ·have hd : decide ((q : Int) < l.length) = false := decide_eq_false (by omega)
    (repeat (first | refine st ?_ | refine σa ?_ | (refine σb ?_; simp (disch := omega) only [push_cast, ↓reduceIte, reduceCtorEq, ν1, ν2, ν3, ν4, ν5, ζ1, ζ2, ζ3, ζ4, ζ5, hso, hno, hd])))
    exact ⟨rfl, q, rfl, by omega, rfl, hp, fun h => absurd h hql⟩
  rintro g1 M2 ⟨q, h6, hq, rfl, hp, hge⟩
  simp (disch := omega) only [push_cast, ↓reduceIte, reduceCtorEq, Nat.reduceAdd, Nat.reduceMul, Nat.reduceLeDiff, Nat.reduceLT, Nat.reduceSub, Int.reduceNe, Int.reduceEq, Int.reduceLE, Int.reduceLT, Int.reduceToNat, h6]
  have hins := insU_at hp hq
  refine blockA.here ?_
  refine thenA.normal ?_
  refine AW.seq ?_
  refine AW.joinF [28, 29, 30, 31, 32, 33, 34, 35, 36, 37, 38, 39] (fun g M' => M' = M2 ∧ (q < l.length → x < l.getD q 0)) ?_ ?_
  ·by_cases hql : q < l.length
   ·have hd : decide ((q : Int) < l.length) = true := decide_eq_true (by omega)
    have l2 := hN.sl.ldN (P := Try.prog) (ty := 30) (i := q) (by kernel_rfl) hql
    by_cases hqx : l.getD q 0 = x
    ·have de : decide (x = x) = true := decide_eq_true rfl
     (repeat (first | refine st ?_ | refine σa ?_ | (refine σb ?_; simp (disch := omega) only [push_cast, ↓reduceIte, reduceCtorEq, ν1, ν2, ν3, ν4, ν5, ζ1, ζ2, ζ3, ζ4, ζ5, hso, hno, hd, l2, hqx, de, w_i64, Int.toNat_natCast])))
     have e : insU x l = l := by
      rw [hins, drop_cons hql, hqx, insU, if_neg (by omega), if_pos rfl]
      conv => rhs; rw [← List.take_append_drop q l, drop_cons hql, hqx]
     refine ⟨rfl, m - 1, by omega, i + 1, rfl, by omega, hF, ?_⟩
     rw [hsnoc, e]; exact hN
    ·have de : decide (l.getD q 0 = x) = false := decide_eq_false hqx
     (repeat (first | refine st ?_ | refine σa ?_ | (refine σb ?_; simp (disch := omega) only [push_cast, ↓reduceIte, reduceCtorEq, ν1, ν2, ν3, ν4, ν5, ζ1, ζ2, ζ3, ζ4, ζ5, hso, hno, hd, l2, de, Int.toNat_natCast])))
     exact ⟨rfl, rfl, fun _ => by have := hge hql; omega⟩
   ·have hd : decide ((q : Int) < l.length) = false := decide_eq_false (by omega)
    (repeat (first | refine st ?_ | refine σa ?_ | (refine σb ?_; simp (disch := omega) only [push_cast, ↓reduceIte, reduceCtorEq, ν1, ν2, ν3, ν4, ν5, ζ1, ζ2, ζ3, ζ4, ζ5, hso, hno, hd])))
    exact ⟨rfl, rfl, fun h => absurd h hql⟩
  clear hge
  rintro g2 M3 ⟨rfl, hgt⟩
  simp (disch := omega) only [push_cast, ↓reduceIte, reduceCtorEq, Nat.reduceAdd, Nat.reduceMul, Nat.reduceLeDiff, Nat.reduceLT, Nat.reduceSub, Int.reduceNe, Int.reduceEq, Int.reduceLE, Int.reduceLT, Int.reduceToNat]
  (repeat (first | refine st ?_ | refine σa ?_ | (refine σb ?_; simp (disch := omega) only [push_cast, ↓reduceIte, reduceCtorEq, ν1, ν2, ν3, ν4, ν5, ζ1, ζ2, ζ3, ζ4, ζ5])))
  have hrow := New.row M3 (s := 1) (n := 1) (cs := ints .u32 [0]) (by omega) rfl rfl (by decide)
  have hN1 := hN.keep (Fr.push M3 (.row true 1 [.int .u32 0])) (by simp)
  refine appK.ints (P := Try.prog) (e := 30) (bt := 4) (z := .int .u32 0) (by kernel_rfl) (by kernel_rfl) (by kernel_rfl) (by kernel_rfl) (by decide) hN1.1 hrow.sl (by simp; omega) ?_
  intro v' M4 hN4 hF4
  have hF5 : Fr M M4 [] := (hF.tr (Fr.push M3 _)).new hN1 hF4
  have hN5 := hN4.after (hF.tr (Fr.push M3 _))
  have hs5 := hN5.sl.isSl
  have hn5 := hN5.sl.lnI
  have hl1 : (l ++ [0]).length = l.length + 1 := by simp
  rw [hl1] at hn5
  (repeat (first | refine st ?_ | refine σa ?_ | (refine σb ?_; simp (disch := omega) only [push_cast, ↓reduceIte, reduceCtorEq, ν1, ν2, ν3, ν4, ν5, ζ1, ζ2, ζ3, ζ4, ζ5, hs5, hn5, w_i64])))
  rcases hN5.1.rw with ⟨h0, _⟩ | ⟨b, off, c, pre, rfl, hR⟩
  ·simp at h0
  rw [hl1] at hR
  have hbm : M.length ≤ b := hN5.blk b (by show b ∈ (if c = 0 then [] else [b]); rw [if_neg hR.pos]; simp)
  rw [hl1]
  refine AW.loopF [7, 46, 47, 48, 49, 50, 51, 52, 53, 54, 55, 56, 57, 58] (fun m' g M' => ∃ u : Nat, g 7 = .int .i64 u ∧ q ≤ u ∧ u = q + m' ∧ u ≤ l.length ∧ ∃ ys, M' = M4.set b (.row true 1 (pre ++ ints .u32 ys ++ [])) ∧ ys.length = l.length + 1 ∧ (∀ p, p < u → ys.getD p 0 = l.getD p 0) ∧ ∀ p, u < p → p ≤ l.length → ys.getD p 0 = l.getD (p - 1) 0) (l.length - q) ?_ ?_
  ·refine ⟨l.length, congrArg (Value.int .i64) (by omega), hq, by omega, by omega, l ++ [0], hR.same.symm, by simp, fun p hp => ?_, fun p h1 h2 => by omega⟩
   rw [List.getD_eq_getElem?_getD, List.getElem?_append_left hp, ← List.getD_eq_getElem?_getD]
  rintro m2 g3 M5 ⟨u, h7, hu1, hu2, hu3, ys, rfl, hyl, ylo, yhi⟩
  have hRy := hR.put (ys := ys) (by omega)
  simp (disch := omega) only [push_cast, ↓reduceIte, reduceCtorEq, Nat.reduceAdd, Nat.reduceMul, Nat.reduceLeDiff, Nat.reduceLT, Nat.reduceSub, Int.reduceNe, Int.reduceEq, Int.reduceLE, Int.reduceLT, Int.reduceToNat, h7]
  (repeat (first | refine st ?_ | refine σa ?_ | (refine σb ?_; simp (disch := omega) only [push_cast, ↓reduceIte, reduceCtorEq, ν1, ν2, ν3, ν4, ν5, ζ1, ζ2, ζ3, ζ4, ζ5])))
  ((first | refine AL.gu rfl (fun hug => ?_) (fun hug => ?_) | refine AW.condS rfl rfl (fun hug => ?_) (fun hug => ?_)) <;> (try (have hug' := hug; simp only [Bool.not_eq_true', Bool.not_eq_false', Bool.not_true, Bool.not_false, decide_eq_true_eq, decide_eq_false_iff_not, Classical.not_not, Int.not_lt, Int.not_le, gt_iff_lt, ge_iff_le, beq_iff_eq] at hug')))
  ·have l3 := hRy.ld (i := u - 1) (by omega)
   have hR3 := hR.put (ys := ys.set u (ys.getD (u - 1) 0)) (by simp; omega)
   (repeat (first | refine st ?_ | refine σa ?_ | (refine σb ?_; simp (disch := omega) only [push_cast, ↓reduceIte, reduceCtorEq, ν1, ν2, ν3, ν4, ν5, ζ1, ζ2, ζ3, ζ4, ζ5, l3, tn_sub1, w_i64, Int.toNat_natCast, hRy.get, hRy.room, hRy.spl, Option.some.injEq, exists_eq_left', List.set_set, List.length_set, Blk.put, Blk.ours, Blk.cells])))
   refine ⟨rfl, m2 - 1, by omega, u - 1, congrArg (Value.int .i64) (by omega), by omega, by omega, by omega, ys.set u (ys.getD (u - 1) 0), rfl, by simp; omega, fun p hp => ?_, fun p h1 h2 => ?_⟩
   ·rw [List.getD_eq_getElem?_getD, List.getElem?_set_ne (by omega), ← List.getD_eq_getElem?_getD]; exact ylo p (by omega)
   ·by_cases e : p = u
    ·subst e
     rw [getD_lt (by simp; omega), List.getElem_set_self, ylo _ (by omega)]
    ·rw [List.getD_eq_getElem?_getD, List.getElem?_set_ne (by omega), ← List.getD_eq_getElem?_getD]; exact yhi p (by omega) h2
  ·obtain rfl : u = q := by omega
   have hR3 := hR.put (ys := ys.set u x) (by simp; omega)
   (repeat (first | refine st ?_ | refine σa ?_ | (refine σb ?_; simp (disch := omega) only [push_cast, ↓reduceIte, reduceCtorEq, ν1, ν2, ν3, ν4, ν5, ζ1, ζ2, ζ3, ζ4, ζ5, w_i64, Int.toNat_natCast, hRy.get, hRy.room, hRy.spl, Option.some.injEq, exists_eq_left', List.set_set, List.length_set, Blk.put, Blk.ours, Blk.cells])))
   have e : ys.set u x = uniq (xs.take (i + 1)) := by
    have e2 : insU x (l.drop u) = x :: l.drop u := by
     rcases Nat.lt_or_ge u l.length with h | h
     ·rw [drop_cons h, insU, if_pos (hgt h)]
     ·rw [List.drop_of_length_le h]; rfl
    rw [hsnoc, hins, e2]
    apply List.ext_getElem
    ·simp; omega
    ·intro p p1 p2
     have p1' : p < ys.length := by simpa using p1
     rw [List.getElem_set]
     by_cases ep : u = p
     ·subst ep; rw [if_pos rfl, List.getElem_append_right (by simp; omega)]; simp [Nat.min_eq_left hu3]
     ·rw [if_neg ep]
      rcases Nat.lt_or_ge p u with h | h
      ·rw [List.getElem_append_left (by simp; omega), List.getElem_take]
       have := ylo p h
       rwa [getD_lt p1', getD_lt (by omega)] at this
      ·rw [List.getElem_append_right (by simp; omega)]
       have := yhi p (by omega) (by omega)
       rw [getD_lt p1', getD_lt (by omega)] at this
       rw [this]
       have e3 : p - (l.take u).length = (p - u - 1) + 1 := by simp; omega
       simp only [e3, List.getElem_cons_succ, List.getElem_drop]
       congr 1
       omega
   refine ⟨rfl, m - 1, by omega, i + 1, rfl, by omega, (hF5.trans (Fr.set M4 b _)).cut (by intro x hx hlt; simp at hx; omega), ?_⟩
   refine ⟨by rw [← e]; exact hR3.own, fun a n' c' hv' hc' => by cases hv'; exact hbm⟩
 ·(repeat (first | refine st ?_ | refine σa ?_ | (refine σb ?_; simp (disch := omega) only [push_cast, ↓reduceIte, reduceCtorEq, ν1, ν2, ν3, ν4, ν5, ζ1, ζ2, ζ3, ζ4, ζ5])))
  ((first | refine retA.ret (by rfl) ?_ | refine retA.normal (by rfl) ?_); simp (disch := omega) only [push_cast, ↓reduceIte, reduceCtorEq, Nat.reduceAdd, Nat.reduceMul, Nat.reduceLeDiff, Nat.reduceLT, Nat.reduceSub, Int.reduceNe, Int.reduceEq, Int.reduceLE, Int.reduceLT, Int.reduceToNat])
  obtain rfl : i = xs.length := by omega
  rw [List.take_length] at hN
  exact ⟨hF, hN⟩
theorem d49_Kpc {g n : Prop} (k : n) (h : n → g := by first | exact AW.dr (id := 4) (by rfl) [0, 1, 3, 4, 2, 5, 6] (by kernel_rfl) (by kernel_rfl)) : g := h k
theorem a49_Kpc {g n : Prop} (k : n) (h : n → g := by first | exact AH.ca (dst := some 17) rfl | exact AH.caN (dst := some 20) rfl (by kernel_rfl)) : g := h k
theorem ralike_spec (v : Value) (l : List RG) (p q : PX) (M : Mem) (hv : Sl M v 4 (rgs l)) (hg : ∀ r ∈ l, goodR r) (hl : l.length ≤ 1000000) (hp : 0 ≤ p.1 ∧ p.1 ≤ 4294967295) (hq : 0 ≤ q.1 ∧ q.1 ≤ 4294967295) :
  CallA Try.prog 49 [v, .agg ⟨[.int .u32 p.1, .int .i64 p.2]⟩, .agg ⟨[.int .u32 q.1, .int .i64 q.2]⟩] M fun r M' => Fr M M' [] ∧ r = .bool (decide (kindR l p = kindR l q)) := by
 have s0 := hv.isSl
 have n0 := hv.lnR
 have P0 := Fr.push2 M (.box [.int .u32 p.1, .int .i64 p.2]) (.box [.int .u32 q.1, .int .i64 q.2])
 have A0 := (At.push M (.box [.int .u32 p.1, .int .i64 p.2])).keep (Fr.push _ (.box [.int .u32 q.1, .int .i64 q.2])) (by simp)
 have B0 := At.push (M ++ [.box [.int .u32 p.1, .int .i64 p.2]]) (.box [.int .u32 q.1, .int .i64 q.2])
 rw [List.length_append, List.length_singleton] at B0
 (refine CallA.of_body Try.func49 rfl (by rfl) ?_; simp only [Try.ntmps49, List.length_cons, List.length_nil, List.replicate, List.cons_append, List.nil_append, Nat.reduceSub, Nat.reduceAdd])
 (repeat (first | refine st ?_ | refine σa ?_ | refine d49_Kpc ?_ | ((first | refine a49_Kpc ?_ | refine σb ?_ | refine σc ?_); simp (disch := omega) only [push_cast, ↓reduceIte, reduceCtorEq, ν1, ν2, ν3, ν4, ν5, ζ1, ζ2, ζ3, ζ4, ζ5, s0, n0, memE, boxE, buildE, lsE])))
 simp only [List.length_append, List.length_cons, List.length_nil, Nat.zero_add]
 generalize M ++ [Blk.box [.int .u32 p.1, .int .i64 p.2]] ++ [Blk.box [.int .u32 q.1, .int .i64 q.2]] = M0 at *
 obtain ⟨s, hs⟩ : ∃ s, s = M.length := ⟨_, rfl⟩
 rw [← hs] at A0 B0 ⊢
 refine AW.loopF [6, 8, 11, 12, 13, 14, 15, 16, 17, 18, 19, 20, 21, 22] (fun m g M' => ∃ i : Nat, g 11 = .int .i64 i ∧ i + m = l.length ∧ Fr M0 M' [] ∧ ∀ r ∈ l.take i, (inR r p ↔ inR r q)) l.length ?_ ?_
 ·exact ⟨0, rfl, by omega, Fr.refl _, by simp⟩
 rintro m g M1 ⟨i, h11, hi, F1, hk⟩
 simp (disch := omega) only [push_cast, ↓reduceIte, reduceCtorEq, Nat.reduceAdd, Nat.reduceMul, Nat.reduceLeDiff, Nat.reduceLT, Nat.reduceSub, Int.reduceNe, Int.reduceEq, Int.reduceLE, Int.reduceLT, Int.reduceToNat, h11]
 by_cases ci : i < l.length
 rotate_left
 ·have d : decide ((i : Int) < (l.length : Int)) = false := decide_eq_false (by omega)
  obtain rfl : i = l.length := by omega
  (repeat (first | refine st ?_ | refine σa ?_ | refine d49_Kpc ?_ | ((first | refine a49_Kpc ?_ | refine σb ?_ | refine σc ?_); simp (disch := omega) only [push_cast, ↓reduceIte, reduceCtorEq, ν1, ν2, ν3, ν4, ν5, ζ1, ζ2, ζ3, ζ4, ζ5, d, lsE])))
  ((first | refine retA.ret (by rfl) ?_ | refine retA.normal (by rfl) ?_); simp (disch := omega) only [push_cast, ↓reduceIte, reduceCtorEq, Nat.reduceAdd, Nat.reduceMul, Nat.reduceLeDiff, Nat.reduceLT, Nat.reduceSub, Int.reduceNe, Int.reduceEq, Int.reduceLE, Int.reduceLT, Int.reduceToNat])
  rw [List.take_length] at hk
  exact ⟨P0.tr F1, by rw [decide_eq_true (kindR_eq.2 hk)]⟩
 have d : decide ((i : Int) < (l.length : Int)) = true := decide_eq_true (by omega)
 obtain ⟨x, hxi⟩ : ∃ x, l[i]? = some x := ⟨_, List.getElem?_eq_getElem ci⟩
 have hxm : x ∈ l := List.mem_of_getElem? hxi
 have eti : ((i : Nat) : Int).toNat = i := Int.toNat_natCast i
 have hv1 := (hv.keep P0 (by simp)).keep F1 (by simp)
 have ldx := rg_load hv1 hxi
 have lj : (i : Int) < (l.length : Int) := by omega
 have l0 : (0 : Int) ≤ (i : Int) := by omega
 have wi : IntKind.i64.wrap ((i : Int) + 1) = ((i + 1 : Nat) : Int) := by rw [w_i64 (by omega) (by omega)]; rfl
 have Fx := Fr.push M1 (.box (rgL x))
 have aX := At.push M1 (.box (rgL x))
 have A1 := (A0.keep F1 (by simp)).keep Fx (by simp)
 have B1 := (B0.keep F1 (by simp)).keep Fx (by simp)
 (repeat (first | refine st ?_ | refine σa ?_ | refine d49_Kpc ?_ | ((first | refine a49_Kpc ?_ | refine σy ?_ | refine σc ?_); simp (disch := omega) only [push_cast, ↓reduceIte, reduceCtorEq, ν1, ν2, ν3, ν4, ν5, ζ1, ζ2, ζ3, ζ4, ζ5, d, n0, s0, eti, lj, l0, ldx, rgL_len, rgL_drop, rgL_take, rgL_one, memE, boxE, boxE, buildE, lsE]) | (refine AL.pu rfl ?_; simp (disch := omega) only [push_cast, ↓reduceIte, reduceCtorEq, ν1, ν2, ν3, ν4, ν5, ζ1, ζ2, ζ3, ζ4, ζ5, d, n0, s0, eti, lj, l0, ldx, rgL_len, rgL_drop, rgL_take, rgL_one, memE, boxE, boxE, buildE, lsE]; refine id (α := AL _ _ _ _ _ _) ?_)))
 simp (disch := omega) only [push_cast, ↓reduceIte, reduceCtorEq, Nat.reduceAdd, Nat.reduceMul, Nat.reduceLeDiff, Nat.reduceLT, Nat.reduceSub, Int.reduceNe, Int.reduceEq, Int.reduceLE, Int.reduceLT, Int.reduceToNat, A1.ld, buildE]
 (repeat (first | refine st ?_ | refine σa ?_ | refine d49_Kpc ?_ | ((first | refine a49_Kpc ?_ | refine σb ?_ | refine σc ?_); simp (disch := omega) only [push_cast, ↓reduceIte, reduceCtorEq, ν1, ν2, ν3, ν4, ν5, ζ1, ζ2, ζ3, ζ4, ζ5, aX.ld, A1.ld, rgL_len, rgL_take, memE, boxE, buildE, lsE])))
 simp (disch := omega) only [push_cast, ↓reduceIte, reduceCtorEq, Nat.reduceAdd, Nat.reduceMul, Nat.reduceLeDiff, Nat.reduceLT, Nat.reduceSub, Int.reduceNe, Int.reduceEq, Int.reduceLE, Int.reduceLT, Int.reduceToNat, B1.ld, buildE]
 (repeat (first | refine st ?_ | refine σa ?_ | refine d49_Kpc ?_ | ((first | refine a49_Kpc ?_ | refine σb ?_ | refine σc ?_); simp (disch := omega) only [push_cast, ↓reduceIte, reduceCtorEq, ν1, ν2, ν3, ν4, ν5, ζ1, ζ2, ζ3, ζ4, ζ5, B1.ld, buildE, lsE])))
 refine (rin_spec x p _ (hg x hxm) hp).mono ?_
 rintro w M3 ⟨F3, rfl⟩
 refine ⟨F3, ?_⟩
 have aX3 := aX.keep F3 (by simp)
 have B3 := B1.keep F3 (by simp)
 (repeat (first | refine st ?_ | refine σa ?_ | refine d49_Kpc ?_ | ((first | refine a49_Kpc ?_ | refine σb ?_ | refine σc ?_); simp (disch := omega) only [push_cast, ↓reduceIte, reduceCtorEq, ν1, ν2, ν3, ν4, ν5, ζ1, ζ2, ζ3, ζ4, ζ5, lsE])))
 refine (rin_spec x q _ (hg x hxm) hq).mono ?_
 rintro w M4 ⟨F4, rfl⟩
 have F14 := ((F1.tr Fx).tr F3).tr F4
 obtain ⟨bb, hbb⟩ : ∃ bb, (!(decide (inR x p) == decide (inR x q))) = bb := ⟨_, rfl⟩
 have hne : abin2 Try.prog .neq 4 (.bool (decide (inR x p))) (.bool (decide (inR x q))) = some (.bool bb) := by rw [← hbb]; kernel_rfl
 (repeat (first | refine st ?_ | refine σa ?_ | refine d49_Kpc ?_ | ((first | refine a49_Kpc ?_ | refine σb ?_ | refine σc ?_); simp (disch := omega) only [push_cast, ↓reduceIte, reduceCtorEq, ν1, ν2, ν3, ν4, ν5, ζ1, ζ2, ζ3, ζ4, ζ5, hne, Option.some.injEq, exists_eq_left', lsE])))
 by_cases ce : inR x p ↔ inR x q
 ·obtain rfl : bb = false := by rw [← hbb]; by_cases h1 : inR x p <;> by_cases h2 : inR x q <;> simp [h1, h2] at ce ⊢
  (repeat (first | refine st ?_ | refine σa ?_ | refine d49_Kpc ?_ | ((first | refine a49_Kpc ?_ | refine σb ?_ | refine σc ?_); simp (disch := omega) only [push_cast, ↓reduceIte, reduceCtorEq, ν1, ν2, ν3, ν4, ν5, ζ1, ζ2, ζ3, ζ4, ζ5, lsE])))
  refine ⟨rfl, m - 1, by omega, i + 1, ?_, by omega, F14, ?_⟩
  ·show Value.int .i64 (IntKind.i64.wrap ((i : Int) + 1)) = _
   rw [wi]
  ·intro r hr
   rw [List.take_add_one, hxi, Option.toList_some] at hr
   rcases List.mem_append.1 hr with hr | hr
   ·exact hk r hr
   ·rw [List.mem_singleton] at hr; subst hr; exact ce
 ·obtain rfl : bb = true := by rw [← hbb]; by_cases h1 : inR x p <;> by_cases h2 : inR x q <;> simp [h1, h2] at ce ⊢
  (repeat (first | refine st ?_ | refine σa ?_ | refine d49_Kpc ?_ | ((first | refine a49_Kpc ?_ | refine σb ?_ | refine σc ?_); simp (disch := omega) only [push_cast, ↓reduceIte, reduceCtorEq, ν1, ν2, ν3, ν4, ν5, ζ1, ζ2, ζ3, ζ4, ζ5, lsE])))
  ((first | refine retA.ret (by rfl) ?_ | refine retA.normal (by rfl) ?_); simp (disch := omega) only [push_cast, ↓reduceIte, reduceCtorEq, Nat.reduceAdd, Nat.reduceMul, Nat.reduceLeDiff, Nat.reduceLT, Nat.reduceSub, Int.reduceNe, Int.reduceEq, Int.reduceLE, Int.reduceLT, Int.reduceToNat])
  exact ⟨P0.tr F14, by rw [decide_eq_false (fun h => ce (kindR_eq.1 h x hxm))]⟩
theorem rbegins_spec (v : Value) (l : List RG) (M : Mem) (hv : Sl M v 4 (rgs l)) (hg : ∀ r ∈ l, goodR r) (hl : l.length ≤ 64) : CallA Try.prog 47 [v] M fun r M' => Fr M M' [] ∧ New M M' r 1 (ints .u32 (uniq (begs l))) := by
 have s0 := hv.isSl
 have n0 := hv.lnR
 (refine CallA.of_body Try.func47 rfl (by rfl) ?_; simp only [Try.ntmps47, List.length_cons, List.length_nil, List.replicate, List.cons_append, List.nil_append, Nat.reduceSub, Nat.reduceAdd])
 (repeat (first | refine st ?_ | refine σa ?_ | (refine σb ?_; simp (disch := omega) only [push_cast, ↓reduceIte, reduceCtorEq, ν1, ν2, ν3, ν4, ν5, ζ1, ζ2, ζ3, ζ4, ζ5, s0, n0, memE, boxE, buildE, lsE])))
 have P0 := Fr.push M (.row true 1 (ints .u32 [0]))
 have hr0 := New.row M (s := 1) (n := 1) (cs := ints .u32 [0]) (by omega) rfl rfl (by decide)
 refine AW.loopF [3, 5, 6, 7, 8, 12, 13, 14, 15, 16, 17, 18, 19, 20, 21, 22, 23, 24, 25, 26, 27, 28, 29, 30, 31, 32, 33, 34, 35, 36, 37, 38, 39, 40, 41, 42, 43, 44, 45, 46, 47] (fun m g M' => ∃ i : Nat, g 12 = .int .i64 i ∧ i + m = l.length ∧ Fr M M' [] ∧ New M M' (g 3) 1 (ints .u32 (0 :: (l.take i).flatMap begR))) l.length ?_ ?_
 ·exact ⟨0, rfl, by omega, P0, hr0⟩
 rintro m g M1 ⟨i, h12, hi, F1, N1⟩
 obtain ⟨at', h3⟩ : ∃ at', g 3 = at' := ⟨_, rfl⟩
 rw [h3] at N1
 simp (disch := omega) only [push_cast, ↓reduceIte, reduceCtorEq, Nat.reduceAdd, Nat.reduceMul, Nat.reduceLeDiff, Nat.reduceLT, Nat.reduceSub, Int.reduceNe, Int.reduceEq, Int.reduceLE, Int.reduceLT, Int.reduceToNat, h12, h3]
 have lb : (0 :: (l.take i).flatMap begR).length ≤ 1 + 2 * i := by
  have := begs_len (l.take i)
  rw [List.length_take] at this
  unfold begs at this
  omega
 by_cases ci : i < l.length
 rotate_left
 ·have d : decide ((i : Int) < (l.length : Int)) = false := decide_eq_false (by omega)
  obtain rfl : i = l.length := by omega
  rw [List.take_length] at N1
  have N1x : New M M1 at' 1 (ints .u32 (begs l)) := N1
  (repeat (first | refine st ?_ | refine σa ?_ | (refine σb ?_; simp (disch := omega) only [push_cast, ↓reduceIte, reduceCtorEq, ν1, ν2, ν3, ν4, ν5, ζ1, ζ2, ζ3, ζ4, ζ5, d, lsE])))
  have lbs : (begs l).length ≤ 1000 := by have := begs_len l; omega
  refine (sorted_spec at' (begs l) M1 N1x.sl (by omega)).mono ?_
  rintro r M2 ⟨F2, N2⟩
  (repeat (first | refine st ?_ | refine σa ?_ | (refine σb ?_; simp (disch := omega) only [push_cast, ↓reduceIte, reduceCtorEq, ν1, ν2, ν3, ν4, ν5, ζ1, ζ2, ζ3, ζ4, ζ5, lsE])))
  ((first | refine retA.ret (by rfl) ?_ | refine retA.normal (by rfl) ?_); simp (disch := omega) only [push_cast, ↓reduceIte, reduceCtorEq, Nat.reduceAdd, Nat.reduceMul, Nat.reduceLeDiff, Nat.reduceLT, Nat.reduceSub, Int.reduceNe, Int.reduceEq, Int.reduceLE, Int.reduceLT, Int.reduceToNat])
  exact ⟨F1.tr F2, N2.after F1⟩
 have d : decide ((i : Int) < (l.length : Int)) = true := decide_eq_true (by omega)
 obtain ⟨x, hxi⟩ : ∃ x, l[i]? = some x := ⟨_, List.getElem?_eq_getElem ci⟩
 have hxm : x ∈ l := List.mem_of_getElem? hxi
 have eti : ((i : Nat) : Int).toNat = i := Int.toNat_natCast i
 have hv1 := hv.keep F1 (by simp)
 have ldx := rg_load hv1 hxi
 have lj : (i : Int) < (l.length : Int) := by omega
 have l0 : (0 : Int) ≤ (i : Int) := by omega
 have ei : (l.take (i + 1)).flatMap begR = (l.take i).flatMap begR ++ begR x := by
  rw [List.take_add_one, hxi, Option.toList_some, List.flatMap_append, List.flatMap_cons, List.flatMap_nil, List.append_nil]
 have wi : IntKind.i64.wrap ((i : Int) + 1) = ((i + 1 : Nat) : Int) := by rw [w_i64 (by omega) (by omega)]; rfl
 (repeat (first | refine st ?_ | refine σa ?_ | (refine σy ?_; simp (disch := omega) only [push_cast, ↓reduceIte, reduceCtorEq, ν1, ν2, ν3, ν4, ν5, ζ1, ζ2, ζ3, ζ4, ζ5, d, n0, s0, eti, lj, l0, ldx, rgL_len, rgL_drop, rgL_take, rgL_one, memE, boxE, boxE, buildE, lsE]) | (refine AL.pu rfl ?_; simp (disch := omega) only [push_cast, ↓reduceIte, reduceCtorEq, ν1, ν2, ν3, ν4, ν5, ζ1, ζ2, ζ3, ζ4, ζ5, d, n0, s0, eti, lj, l0, ldx, rgL_len, rgL_drop, rgL_take, rgL_one, memE, boxE, boxE, buildE, lsE]; refine id (α := AL _ _ _ _ _ _) ?_)))
 have Fx := Fr.push M1 (.box (rgL x))
 have aX := At.push M1 (.box (rgL x))
 (repeat (first | refine st ?_ | refine σa ?_ | (refine σb ?_; simp (disch := omega) only [push_cast, ↓reduceIte, reduceCtorEq, ν1, ν2, ν3, ν4, ν5, ζ1, ζ2, ζ3, ζ4, ζ5, aX.ld, rgL_len, rgL_take, memE, boxE, buildE, lsE])))
 refine (rright4_spec x _ (hg x hxm)).mono ?_
 rintro w M3 ⟨F3, rfl⟩
 have F13 := (F1.tr Fx).tr F3
 have N3 := (N1.keep Fx (by simp)).keep F3 (by simp)
 have aX3 := aX.keep F3 (by simp)
 by_cases rr : rightR x
 rotate_left
 ·rw [decide_eq_false rr]
  (repeat (first | refine st ?_ | refine σa ?_ | (refine σb ?_; simp (disch := omega) only [push_cast, ↓reduceIte, reduceCtorEq, ν1, ν2, ν3, ν4, ν5, ζ1, ζ2, ζ3, ζ4, ζ5, Bool.not_false, lsE])))
  refine ⟨rfl, m - 1, by omega, i + 1, ?_, by omega, F13, ?_⟩
  ·show Value.int .i64 (IntKind.i64.wrap ((i : Int) + 1)) = _
   rw [wi]
  ·rw [ei, show begR x = [] by unfold begR; rw [if_neg rr], List.append_nil]; exact N3
 rw [decide_eq_true rr]
 (repeat (first | refine st ?_ | refine σa ?_ | (refine σb ?_; simp (disch := omega) only [push_cast, ↓reduceIte, reduceCtorEq, ν1, ν2, ν3, ν4, ν5, ζ1, ζ2, ζ3, ζ4, ζ5, aX3.ld, rgL_ld, Bool.not_true, memE, boxE, buildE, lsE])))
 have P4 := Fr.push M3 (.row true 1 (ints .u32 [x.base.1]))
 have hr4 := New.row M3 (s := 1) (n := 1) (cs := ints .u32 [x.base.1]) (by omega) rfl rfl (by decide)
 refine appK.ints (P := Try.prog) (e := 30) (bt := 4) (z := .int .u32 0) (by kernel_rfl) (by kernel_rfl) (by kernel_rfl) (by kernel_rfl) (by decide) (N3.1.keep P4 (by simp)) hr4.sl (by rw [List.length_singleton]; omega) ?_
 intro w M5 N5 F5
 have F15 : Fr M M5 [] := ((F13.tr P4).trans F5).cut (fun y hy hlt => by simp at hy; have := N3.blk y hy; omega)
 have N5' : New M M5 w 1 (ints .u32 ((0 :: (l.take i).flatMap begR) ++ [x.base.1])) := ⟨N5.1, fun a b c h h0 => Nat.le_trans (Nat.le_trans F13.1 P4.1) (N5.2 a b c h h0)⟩
 have aX5 := (aX3.keep P4 (by simp)).keep F5 (fun hx => by have := N1.sl.blks _ hx; omega)
 have hbx : 0 ≤ x.base.1 ∧ x.base.1 ≤ 4294967295 := hg x hxm
 have hlx := rightX_len rr.1
 obtain ⟨n0', hn0⟩ : ∃ n0' : Nat, x.base.2 = (n0' : Int) := ⟨x.base.2.toNat, by omega⟩
 have hsp : (2 : Int) ^ (32 - n0') = spanN x.base.2 := by unfold spanN; rw [hn0]; rfl
 have sp1 := spanN_pos x.base.2
 have sp2 := spanN_le x.base.2
 have wb : IntKind.u64.wrap x.base.1 = x.base.1 := w_u64 (by omega) (by omega)
 have wsum : IntKind.u64.wrap (x.base.1 + spanN x.base.2) = x.base.1 + spanN x.base.2 := w_u64 (by omega) (by omega)
 (repeat (first | refine st ?_ | refine σa ?_ | (refine σb ?_; simp (disch := omega) only [push_cast, ↓reduceIte, reduceCtorEq, ν1, ν2, ν3, ν4, ν5, ζ1, ζ2, ζ3, ζ4, ζ5, aX5.ld, rgL_ld, hn0, memE, boxE, buildE, lsE])))
 refine AW.loopF [6, 7, 28, 29, 30, 31, 32, 33] (fun m g M' => ∃ j : Nat, g 7 = .int .i64 j ∧ j + m = 32 ∧ n0' ≤ j ∧ M' = M5 ∧ ∃ s : Nat, g 6 = .int .u64 s ∧ s = 2 ^ (j - n0')) (32 - n0') ?_ ?_
 ·exact ⟨n0', rfl, by omega, by omega, rfl, 1, rfl, by simp⟩
 rintro m2 g2 M6 ⟨j, h7, hj, hnj, rfl, s, h6, hs⟩
 simp (disch := omega) only [push_cast, ↓reduceIte, reduceCtorEq, Nat.reduceAdd, Nat.reduceMul, Nat.reduceLeDiff, Nat.reduceLT, Nat.reduceSub, Int.reduceNe, Int.reduceEq, Int.reduceLE, Int.reduceLT, Int.reduceToNat, h6, h7]
 by_cases cj : j < 32
 ·have d2 : decide ((j : Int) < 32) = true := decide_eq_true (by omega)
  have hs2 : s ≤ 2 ^ 31 := by rw [hs]; exact Nat.pow_le_pow_right (by omega) (by omega)
  (repeat (first | refine st ?_ | refine σa ?_ | (refine σb ?_; simp (disch := omega) only [push_cast, ↓reduceIte, reduceCtorEq, ν1, ν2, ν3, ν4, ν5, ζ1, ζ2, ζ3, ζ4, ζ5, d2, w_i64, w_u64, lsE])))
  refine ⟨rfl, m2 - 1, by omega, j + 1, rfl, by omega, by omega, rfl, 2 * s, by push_cast; rfl, by rw [hs, show j + 1 - n0' = (j - n0') + 1 by omega, Nat.pow_succ]; omega⟩
 have d2 : decide ((j : Int) < 32) = false := decide_eq_false (by omega)
 obtain rfl : j = 32 := by omega
 have hss : (s : Int) = spanN x.base.2 := by rw [← hsp, hs]; push_cast; rfl
 (repeat (first | refine st ?_ | refine σa ?_ | (refine σb ?_; simp (disch := omega) only [push_cast, ↓reduceIte, reduceCtorEq, ν1, ν2, ν3, ν4, ν5, ζ1, ζ2, ζ3, ζ4, ζ5, d2, aX5.ld, rgL_ld, hss, wb, wsum, memE, boxE, buildE, lsE])))
 have eb : begR x = x.base.1 :: (if x.base.1 + spanN x.base.2 < 4294967296 then [x.base.1 + spanN x.base.2] else []) := by unfold begR; rw [if_pos rr]
 by_cases cb : x.base.1 + spanN x.base.2 < 4294967296
 rotate_left
 ·have dc : decide (x.base.1 + spanN x.base.2 < 4294967296) = false := decide_eq_false cb
  (repeat (first | refine st ?_ | refine σa ?_ | (refine σb ?_; simp (disch := omega) only [push_cast, ↓reduceIte, reduceCtorEq, ν1, ν2, ν3, ν4, ν5, ζ1, ζ2, ζ3, ζ4, ζ5, dc, lsE])))
  refine ⟨rfl, m - 1, by omega, i + 1, ?_, by omega, F15, ?_⟩
  ·show Value.int .i64 (IntKind.i64.wrap ((i : Int) + 1)) = _
   rw [wi]
  ·rw [ei, eb, if_neg cb]; exact N5'
 have dc : decide (x.base.1 + spanN x.base.2 < 4294967296) = true := decide_eq_true cb
 have w32 : IntKind.u32.wrap (x.base.1 + spanN x.base.2) = x.base.1 + spanN x.base.2 := w_u32 (by omega) (by omega)
 (repeat (first | refine st ?_ | refine σa ?_ | (refine σb ?_; simp (disch := omega) only [push_cast, ↓reduceIte, reduceCtorEq, ν1, ν2, ν3, ν4, ν5, ζ1, ζ2, ζ3, ζ4, ζ5, dc, w32, memE, boxE, buildE, lsE])))
 have P6 := Fr.push M6 (.row true 1 (ints .u32 [x.base.1 + spanN x.base.2]))
 have hr6 := New.row M6 (s := 1) (n := 1) (cs := ints .u32 [x.base.1 + spanN x.base.2]) (by omega) rfl rfl (by decide)
 refine appK.ints (P := Try.prog) (e := 30) (bt := 4) (z := .int .u32 0) (by kernel_rfl) (by kernel_rfl) (by kernel_rfl) (by kernel_rfl) (by decide) (N5'.1.keep P6 (by simp)) hr6.sl (by rw [List.length_singleton, List.length_append, List.length_singleton]; omega) ?_
 intro w' M7 N7 F7
 have F17 : Fr M M7 [] := ((F15.tr P6).trans F7).cut (fun y hy hlt => by simp at hy; have := N5'.blk y hy; omega)
 (repeat (first | refine st ?_ | refine σa ?_ | (refine σb ?_; simp (disch := omega) only [push_cast, ↓reduceIte, reduceCtorEq, ν1, ν2, ν3, ν4, ν5, ζ1, ζ2, ζ3, ζ4, ζ5, lsE])))
 refine ⟨rfl, m - 1, by omega, i + 1, ?_, by omega, F17, ?_⟩
 ·show Value.int .i64 (IntKind.i64.wrap ((i : Int) + 1)) = _
  rw [wi]
 ·rw [ei, eb, if_pos cb]
  have e2 : (0 :: (l.take i).flatMap begR) ++ [x.base.1] ++ [x.base.1 + spanN x.base.2] = 0 :: ((l.take i).flatMap begR ++ [x.base.1, x.base.1 + spanN x.base.2]) := by simp
  rw [← e2]
  exact ⟨N7.1, fun a b c h h0 => Nat.le_trans (Nat.le_trans F15.1 P6.1) (N7.2 a b c h h0)⟩
end Go.Proofs.Ytbdejnnbpdgjlaa.Ax
