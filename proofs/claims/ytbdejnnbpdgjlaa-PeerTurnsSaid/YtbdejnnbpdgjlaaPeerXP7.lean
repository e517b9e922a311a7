/- Contracts of functions over the abstract machine. No conditions: lemmas alone. -/
import Derived.Test.YtbdejnnbpdgjlaaPeerXLibD
import Derived.Test.YtbdejnnbpdgjlaaPeerXP0
import Derived.Test.YtbdejnnbpdgjlaaPeerXP3
import Derived.Test.YtbdejnnbpdgjlaaPeerXP4
import Derived.Test.YtbdejnnbpdgjlaaPeerXP5
import Derived.Test.YtbdejnnbpdgjlaaPeerXP6
namespace Go.Proofs.Ytbdejnnbpdgjlaa.Ax
open Go Go.RowKit
open Nat renaming reduceAdd → ν1, reduceMul → ν2, reduceLeDiff → ν3, reduceLT → ν4, reduceSub → ν5
open Int renaming reduceNe → ζ1, reduceEq → ζ2, reduceLE → ζ3, reduceLT → ζ4, reduceToNat → ζ5
set_option linter.unusedVariables false
set_option linter.unusedSimpArgs false
set_option maxRecDepth 100000
set_option maxHeartbeats 20000000
attribute [local irreducible] thenA blockA scopeA retA AL AW AD ADL AH clrK CallA apure aload bload appK ptrK fnK ares szOk planOk okOps
theorem d77_SoM {g n : Prop} (k : n) (h : n → g := by first | exact AW.dr (id := 17) (by rfl) [0, 1, 2, 3, 4, 5, 6, 7, 8, 9, 10, 11, 12, 13, 14] (by kernel_rfl) (by kernel_rfl)) : g := h k
theorem Fr.same {M M1 M2 : Mem} {b : Nat} (f : Fr M M1 [b]) (g : Fr M1 M2 [b]) : Fr M M2 [b] := (f.trans g).cut (by intro x hx _; simp at hx ⊢; exact hx)
theorem Rw.frame {M M' : Mem} {b off n c : Nat} {pre post : List Value} {xs : List Int} (h : Rw M b off n c pre post xs) (f : Fr M M' []) : Rw M' b off n c pre post xs :=
 ⟨(f.2 b h.lt (by simp)).trans h.get, h.len, h.off, h.cap, h.pos⟩
theorem Fr.none_right {M M1 M2 : Mem} {b : Nat} (f : Fr M M1 [b]) (g : Fr M1 M2 []) : Fr M M2 [b] := (f.trans g).cut (by intro x hx _; simpa using hx)
theorem pdq_spec : ∀ (d : Nat) {M : Mem} {b off n c : Nat} {pre post : List Value} {xs : List Int}, Rw M b off n c pre post xs → ∀ (a e l : Nat), e - a = d → a ≤ e → e ≤ n → n ≤ 1000000000 → l ≤ 64 → (∀ i j, i < a → a ≤ j → j < e → xs.getD i 0 ≤ xs.getD j 0) →
  CallA Try.prog 77 [.slice (some ⟨b, off, none⟩) n c, .int .i64 a, .int .i64 e, .int .i64 l] M fun v M' => ∃ ys, Rw M' b off n c pre post ys ∧ Fr M M' [b] ∧ PermOn a e xs ys ∧ SortOn a e ys := by
 intro d
 induction d using Nat.strongRecOn with
 | _ d ih =>
 intro M b off n c pre post xs h a e l hd ha he hn hl hlow
 have hlen := h.len
 have hbe : e ≤ xs.length := by omega
 (refine CallA.of_body Try.func77 rfl (by rfl) ?_; simp only [Try.ntmps77, List.length_cons, List.length_nil, List.replicate, List.cons_append, List.nil_append, Nat.reduceSub, Nat.reduceAdd])
 (repeat (first | refine st ?_ | refine σa ?_ | refine d77_SoM ?_ | ((first | refine σb ?_ | refine σc ?_); simp (disch := omega) only [push_cast, ↓reduceIte, reduceCtorEq, ν1, ν2, ν3, ν4, ν5, ζ1, ζ2, ζ3, ζ4, ζ5])))
 refine AW.loopF [1, 2, 3, 8, 9, 10, 11, 12, 13, 14, 15, 16, 17, 18, 19, 20, 21, 22, 23, 24, 25, 26, 27, 28, 29, 30, 31, 32, 33, 34, 35, 36, 37, 38, 39, 40, 41, 42, 43, 44, 45, 46, 47, 48, 49, 50, 51, 52, 53, 54, 55, 56, 57, 58, 59, 60, 61, 62, 63, 64, 65, 66, 67, 68, 69, 70, 71, 72, 73, 74, 75, 76, 77, 78, 79, 80, 81, 82, 83, 84, 85, 86, 87, 88, 89, 90, 91, 92, 93, 94, 95, 96, 97, 98, 99, 100, 101, 102, 103, 104, 105, 106, 107, 108, 109, 110, 111, 112, 113, 114, 115, 116, 117, 118, 119, 120, 121, 122, 123, 124, 125, 126, 127, 128, 129, 130, 131, 132, 133] (fun m g M' => ∃ b8, g 8 = .bool b8 ∧ ∃ b9, g 9 = .bool b9 ∧ ∃ a' : Nat, g 1 = .int .i64 a' ∧ ∃ e' : Nat, g 2 = .int .i64 e' ∧ ∃ l' : Nat, g 3 = .int .i64 l' ∧ l' ≤ 64 ∧ a' ≤ e' ∧ e' ≤ a' + m ∧ m ≤ d ∧ ∃ zs, Rw M' b off n c pre post zs ∧ Fr M M' [b] ∧ PQ a e xs a' e' zs) d ?_ ?_
 ·exact ⟨true, rfl, true, rfl, a, rfl, e, rfl, l, rfl, hl, ha, by omega, by omega, xs, h, (Fr.refl M).cut (by simp), PQ.start hlow⟩
 rintro m g M1 ⟨b8, h8, b9, h9, a', h1, e', h2, l', h3, hl', hae, hem, hmd, zs, hR, hF, hQ⟩
 have q1 := hQ.h1
 have q2 := hQ.h2
 have hzl := hQ.perm.len
 obtain ⟨len, rfl⟩ : ∃ len, e' = a' + len := ⟨e' - a', by omega⟩
 have ec : ((a' + len : Nat) : Int) = (a' : Int) + len := by omega
 have e0 : (a' : Int) + len - a' = len := by omega
 rw [ec] at h2
 simp (disch := omega) only [push_cast, ↓reduceIte, reduceCtorEq, Nat.reduceAdd, Nat.reduceMul, Nat.reduceLeDiff, Nat.reduceLT, Nat.reduceSub, Int.reduceNe, Int.reduceEq, Int.reduceLE, Int.reduceLT, Int.reduceToNat, h8, h9, h1, h2, h3]
 (repeat (first | refine st ?_ | refine σa ?_ | refine d77_SoM ?_ | ((first | refine σb ?_ | refine σc ?_); simp (disch := omega) only [push_cast, ↓reduceIte, reduceCtorEq, ν1, ν2, ν3, ν4, ν5, ζ1, ζ2, ζ3, ζ4, ζ5, e0, w_i64])))
 ((first | refine AL.gu rfl (fun hs => ?_) (fun hs => ?_) | refine AW.condS rfl rfl (fun hs => ?_) (fun hs => ?_)) <;> (try (have hs' := hs; simp only [Bool.not_eq_true', Bool.not_eq_false', Bool.not_true, Bool.not_false, decide_eq_true_eq, decide_eq_false_iff_not, Classical.not_not, Int.not_lt, Int.not_le, gt_iff_lt, ge_iff_le, beq_iff_eq] at hs')))
 ·(repeat (first | refine st ?_ | refine σa ?_ | refine d77_SoM ?_ | ((first | refine σb ?_ | refine σc ?_); simp (disch := omega) only [push_cast, ↓reduceIte, reduceCtorEq, ν1, ν2, ν3, ν4, ν5, ζ1, ζ2, ζ3, ζ4, ζ5])))
  have hI := ins_spec hR a' (a' + len) (by omega) (by omega) (by omega)
  rw [ec] at hI
  refine hI.mono ?_
  rintro r M2 ⟨ys, rfl, hP, hS⟩
  (repeat (first | refine st ?_ | refine σa ?_ | refine d77_SoM ?_ | ((first | refine σb ?_ | refine σc ?_); simp (disch := omega) only [push_cast, ↓reduceIte, reduceCtorEq, ν1, ν2, ν3, ν4, ν5, ζ1, ζ2, ζ3, ζ4, ζ5])))
  ((first | refine retA.ret (by rfl) ?_ | refine retA.normal (by rfl) ?_); simp (disch := omega) only [push_cast, ↓reduceIte, reduceCtorEq, Nat.reduceAdd, Nat.reduceMul, Nat.reduceLeDiff, Nat.reduceLT, Nat.reduceSub, Int.reduceNe, Int.reduceEq, Int.reduceLE, Int.reduceLT, Int.reduceToNat])
  exact ⟨ys, hR.put hP.len, hF.same (Fr.set _ _ _), hQ.perm.trans (hP.mono q1 q2), hQ.clo ys hP hS⟩
 ·(repeat (first | refine st ?_ | refine σa ?_ | refine d77_SoM ?_ | ((first | refine σb ?_ | refine σc ?_); simp (disch := omega) only [push_cast, ↓reduceIte, reduceCtorEq, ν1, ν2, ν3, ν4, ν5, ζ1, ζ2, ζ3, ζ4, ζ5])))
  ((first | refine AL.gu rfl (fun hz => ?_) (fun hz => ?_) | refine AW.condS rfl rfl (fun hz => ?_) (fun hz => ?_)) <;> (try (have hz' := hz; simp only [Bool.not_eq_true', Bool.not_eq_false', Bool.not_true, Bool.not_false, decide_eq_true_eq, decide_eq_false_iff_not, Classical.not_not, Int.not_lt, Int.not_le, gt_iff_lt, ge_iff_le, beq_iff_eq] at hz')))
  ·(repeat (first | refine st ?_ | refine σa ?_ | refine d77_SoM ?_ | ((first | refine σb ?_ | refine σc ?_); simp (disch := omega) only [push_cast, ↓reduceIte, reduceCtorEq, ν1, ν2, ν3, ν4, ν5, ζ1, ζ2, ζ3, ζ4, ζ5])))
   have hI := heap_spec hR a' (a' + len) (by omega) (by omega) hn
   rw [ec] at hI
   refine hI.mono ?_
   rintro r M2 ⟨ys, rfl, hP, hS⟩
   (repeat (first | refine st ?_ | refine σa ?_ | refine d77_SoM ?_ | ((first | refine σb ?_ | refine σc ?_); simp (disch := omega) only [push_cast, ↓reduceIte, reduceCtorEq, ν1, ν2, ν3, ν4, ν5, ζ1, ζ2, ζ3, ζ4, ζ5])))
   ((first | refine retA.ret (by rfl) ?_ | refine retA.normal (by rfl) ?_); simp (disch := omega) only [push_cast, ↓reduceIte, reduceCtorEq, Nat.reduceAdd, Nat.reduceMul, Nat.reduceLeDiff, Nat.reduceLT, Nat.reduceSub, Int.reduceNe, Int.reduceEq, Int.reduceLE, Int.reduceLT, Int.reduceToNat])
   exact ⟨ys, hR.put hP.len, hF.same (Fr.set _ _ _), hQ.perm.trans (hP.mono q1 q2), hQ.clo ys hP hS⟩
  ·(repeat (first | refine st ?_ | refine σa ?_ | refine d77_SoM ?_ | ((first | refine σb ?_ | refine σc ?_); simp (disch := omega) only [push_cast, ↓reduceIte, reduceCtorEq, ν1, ν2, ν3, ν4, ν5, ζ1, ζ2, ζ3, ζ4, ζ5])))
   have hl12 : 12 < len := by omega
   refine AW.joinF [3, 36, 37, 38, 39, 40, 41] (fun g M' => ∃ l' : Nat, g 3 = .int .i64 l' ∧ l' ≤ 64 ∧ ∃ zs, Rw M' b off n c pre post zs ∧ Fr M M' [b] ∧ PQ a e xs a' (a' + len) zs) ?_ ?_
   ·((first | refine AL.gu rfl (fun hb => ?_) (fun hb => ?_) | refine AW.condS rfl rfl (fun hb => ?_) (fun hb => ?_)) <;> (try (have hb' := hb; simp only [Bool.not_eq_true', Bool.not_eq_false', Bool.not_true, Bool.not_false, decide_eq_true_eq, decide_eq_false_iff_not, Classical.not_not, Int.not_lt, Int.not_le, gt_iff_lt, ge_iff_le, beq_iff_eq] at hb')))
    ·(repeat (first | refine st ?_ | refine σa ?_ | refine d77_SoM ?_ | ((first | refine σb ?_ | refine σc ?_); simp (disch := omega) only [push_cast, ↓reduceIte, reduceCtorEq, ν1, ν2, ν3, ν4, ν5, ζ1, ζ2, ζ3, ζ4, ζ5])))
     refine (brk_spec hR a' len hl12 (by omega) hn).mono ?_
     rintro r M2 ⟨ys, hR2, hF2, hP⟩
     (repeat (first | refine st ?_ | refine σa ?_ | refine d77_SoM ?_ | ((first | refine σb ?_ | refine σc ?_); simp (disch := omega) only [push_cast, ↓reduceIte, reduceCtorEq, ν1, ν2, ν3, ν4, ν5, ζ1, ζ2, ζ3, ζ4, ζ5, w_i64])))
     exact ⟨rfl, l' - 1, congrArg (Value.int .i64) (by omega), by omega, ys, hR2, hF.same hF2, hQ.turn hP hbe⟩
    ·(repeat (first | refine st ?_ | refine σa ?_ | refine d77_SoM ?_ | ((first | refine σb ?_ | refine σc ?_); simp (disch := omega) only [push_cast, ↓reduceIte, reduceCtorEq, ν1, ν2, ν3, ν4, ν5, ζ1, ζ2, ζ3, ζ4, ζ5])))
     exact ⟨(over_self _ _).symm, l', rfl, hl', zs, hR, hF, hQ⟩
   clear hR hF hQ hzl h3 hz hl'
   rintro g2 M2 ⟨l', h3, hl', zs, hR, hF, hQ⟩
   have hzl := hQ.perm.len
   simp (disch := omega) only [push_cast, ↓reduceIte, reduceCtorEq, Nat.reduceAdd, Nat.reduceMul, Nat.reduceLeDiff, Nat.reduceLT, Nat.reduceSub, Int.reduceNe, Int.reduceEq, Int.reduceLE, Int.reduceLT, Int.reduceToNat, h3]
   (repeat (first | refine st ?_ | refine σa ?_ | refine d77_SoM ?_ | ((first | refine σb ?_ | refine σc ?_); simp (disch := omega) only [push_cast, ↓reduceIte, reduceCtorEq, ν1, ν2, ν3, ν4, ν5, ζ1, ζ2, ζ3, ζ4, ζ5])))
   refine (piv_spec hR a' len hl12 (by omega) hn).mono ?_
   rintro r M3 ⟨p, hint, rfl, hp1, hp2, hh1, hh2, hF3⟩
   have hR := hR.frame hF3
   have hF := hF.none_right hF3
   clear hF3
   (repeat (first | refine st ?_ | refine σa ?_ | refine d77_SoM ?_ | ((first | refine σb ?_ | refine σc ?_); simp (disch := omega) only [push_cast, ↓reduceIte, reduceCtorEq, ν1, ν2, ν3, ν4, ν5, ζ1, ζ2, ζ3, ζ4, ζ5])))
   refine AW.joinF [11, 12, 51, 52, 53, 54, 55, 56, 57, 58, 59, 60] (fun g M' => ∃ p : Nat, g 11 = .int .i64 p ∧ ∃ hint, g 12 = .int .i64 hint ∧ a' ≤ p ∧ p < a' + len ∧ ∃ zs, Rw M' b off n c pre post zs ∧ Fr M M' [b] ∧ PQ a e xs a' (a' + len) zs) ?_ ?_
   ·((first | refine AL.gu rfl (fun hh => ?_) (fun hh => ?_) | refine AW.condS rfl rfl (fun hh => ?_) (fun hh => ?_)) <;> (try (have hh' := hh; simp only [Bool.not_eq_true', Bool.not_eq_false', Bool.not_true, Bool.not_false, decide_eq_true_eq, decide_eq_false_iff_not, Classical.not_not, Int.not_lt, Int.not_le, gt_iff_lt, ge_iff_le, beq_iff_eq] at hh')))
    ·(repeat (first | refine st ?_ | refine σa ?_ | refine d77_SoM ?_ | ((first | refine σb ?_ | refine σc ?_); simp (disch := omega) only [push_cast, ↓reduceIte, reduceCtorEq, ν1, ν2, ν3, ν4, ν5, ζ1, ζ2, ζ3, ζ4, ζ5])))
     have hI := rev_spec hR a' (a' + len) (by omega) (by omega) hn
     rw [ec] at hI
     refine hI.mono ?_
     rintro r M4 ⟨ys, rfl, hP⟩
     (repeat (first | refine st ?_ | refine σa ?_ | refine d77_SoM ?_ | ((first | refine σb ?_ | refine σc ?_); simp (disch := omega) only [push_cast, ↓reduceIte, reduceCtorEq, ν1, ν2, ν3, ν4, ν5, ζ1, ζ2, ζ3, ζ4, ζ5, w_i64])))
     exact ⟨rfl, a' + len - 1 - (p - a'), congrArg (Value.int .i64) (by omega), 1, rfl, by omega, by omega, ys, hR.put hP.len, hF.same (Fr.set _ _ _), hQ.turn hP hbe⟩
    ·(repeat (first | refine st ?_ | refine σa ?_ | refine d77_SoM ?_ | ((first | refine σb ?_ | refine σc ?_); simp (disch := omega) only [push_cast, ↓reduceIte, reduceCtorEq, ν1, ν2, ν3, ν4, ν5, ζ1, ζ2, ζ3, ζ4, ζ5])))
     exact ⟨(over_self _ _).symm, p, rfl, hint, rfl, hp1, hp2, zs, hR, hF, hQ⟩
   clear hR hF hQ hzl hh1 hh2 hp1 hp2
   rintro g3 M4 ⟨p, h11, hint, h12, hp1, hp2, zs, hR, hF, hQ⟩
   have hzl := hQ.perm.len
   simp (disch := omega) only [push_cast, ↓reduceIte, reduceCtorEq, Nat.reduceAdd, Nat.reduceMul, Nat.reduceLeDiff, Nat.reduceLT, Nat.reduceSub, Int.reduceNe, Int.reduceEq, Int.reduceLE, Int.reduceLT, Int.reduceToNat, h11, h12]
   refine AW.seq ?_
   refine AW.joinF [61, 62, 63, 64, 65, 66, 67, 68, 69, 70, 71, 72] (fun g M' => ∃ zs, Rw M' b off n c pre post zs ∧ Fr M M' [b] ∧ PQ a e xs a' (a' + len) zs) ?_ ?_
   ·have hpart : ∀ (K : Value → Mem → Prop), (∀ (dd : Bool) (ys : List Int), Rw (M4.set b (.row true 1 (pre ++ ints .u32 ys ++ post))) b off n c pre post ys → Fr M (M4.set b (.row true 1 (pre ++ ints .u32 ys ++ post))) [b] → PermOn a' (a' + len) zs ys → (dd = true → SortOn a' (a' + len) ys) → K (.bool dd) (M4.set b (.row true 1 (pre ++ ints .u32 ys ++ post)))) →
      CallA Try.prog 113 [.slice (some ⟨b, off, none⟩) n c, .int .i64 a', .int .i64 (a' + len)] M4 K := by
     intro K hK
     have hI := part_spec hR a' (a' + len) (by omega) (by omega) hn hQ.low
     rw [ec] at hI
     refine hI.mono ?_
     rintro r M5 ⟨dd, ys, rfl, rfl, hP, hS⟩
     exact hK dd ys (hR.put hP.len) (hF.same (Fr.set _ _ _)) hP hS
    cases b8 with
    | false =>
     (repeat (first | refine st ?_ | refine σa ?_ | refine d77_SoM ?_ | ((first | refine σb ?_ | refine σc ?_); simp (disch := omega) only [push_cast, ↓reduceIte, reduceCtorEq, ν1, ν2, ν3, ν4, ν5, ζ1, ζ2, ζ3, ζ4, ζ5])))
     exact ⟨rfl, zs, hR, hF, hQ⟩
    | true =>
     cases b9 with
     | false =>
      (repeat (first | refine st ?_ | refine σa ?_ | refine d77_SoM ?_ | ((first | refine σb ?_ | refine σc ?_); simp (disch := omega) only [push_cast, ↓reduceIte, reduceCtorEq, ν1, ν2, ν3, ν4, ν5, ζ1, ζ2, ζ3, ζ4, ζ5])))
      exact ⟨rfl, zs, hR, hF, hQ⟩
     | true =>
      (repeat (first | refine st ?_ | refine σa ?_ | refine d77_SoM ?_ | ((first | refine σb ?_ | refine σc ?_); simp (disch := omega) only [push_cast, ↓reduceIte, reduceCtorEq, ν1, ν2, ν3, ν4, ν5, ζ1, ζ2, ζ3, ζ4, ζ5])))
      ((first | refine AL.gu rfl (fun hq1 => ?_) (fun hq1 => ?_) | refine AW.condS rfl rfl (fun hq1 => ?_) (fun hq1 => ?_)) <;> (try (have hq1' := hq1; simp only [Bool.not_eq_true', Bool.not_eq_false', Bool.not_true, Bool.not_false, decide_eq_true_eq, decide_eq_false_iff_not, Classical.not_not, Int.not_lt, Int.not_le, gt_iff_lt, ge_iff_le, beq_iff_eq] at hq1')))
      ·(repeat (first | refine st ?_ | refine σa ?_ | refine d77_SoM ?_ | ((first | refine σb ?_ | refine σc ?_); simp (disch := omega) only [push_cast, ↓reduceIte, reduceCtorEq, ν1, ν2, ν3, ν4, ν5, ζ1, ζ2, ζ3, ζ4, ζ5])))
       refine hpart _ ?_
       intro dd ys hR5 hF5 hP5 hS5
       cases dd with
       | true =>
        (repeat (first | refine st ?_ | refine σa ?_ | refine d77_SoM ?_ | ((first | refine σb ?_ | refine σc ?_); simp (disch := omega) only [push_cast, ↓reduceIte, reduceCtorEq, ν1, ν2, ν3, ν4, ν5, ζ1, ζ2, ζ3, ζ4, ζ5])))
        ((first | refine retA.ret (by rfl) ?_ | refine retA.normal (by rfl) ?_); simp (disch := omega) only [push_cast, ↓reduceIte, reduceCtorEq, Nat.reduceAdd, Nat.reduceMul, Nat.reduceLeDiff, Nat.reduceLT, Nat.reduceSub, Int.reduceNe, Int.reduceEq, Int.reduceLE, Int.reduceLT, Int.reduceToNat])
        exact ⟨ys, hR5, hF5, hQ.perm.trans (hP5.mono q1 q2), hQ.clo ys hP5 (hS5 rfl)⟩
       | false =>
        (repeat (first | refine st ?_ | refine σa ?_ | refine d77_SoM ?_ | ((first | refine σb ?_ | refine σc ?_); simp (disch := omega) only [push_cast, ↓reduceIte, reduceCtorEq, ν1, ν2, ν3, ν4, ν5, ζ1, ζ2, ζ3, ζ4, ζ5])))
        exact ⟨rfl, ys, hR5, hF5, hQ.turn hP5 hbe⟩
      ·(repeat (first | refine st ?_ | refine σa ?_ | refine d77_SoM ?_ | ((first | refine σb ?_ | refine σc ?_); simp (disch := omega) only [push_cast, ↓reduceIte, reduceCtorEq, ν1, ν2, ν3, ν4, ν5, ζ1, ζ2, ζ3, ζ4, ζ5])))
       exact ⟨rfl, zs, hR, hF, hQ⟩
   clear hR hF hQ hzl
   rintro g4 M5 ⟨zs, hR, hF, hQ⟩
   have hzl := hQ.perm.len
   simp (disch := omega) only [push_cast, ↓reduceIte, reduceCtorEq, Nat.reduceAdd, Nat.reduceMul, Nat.reduceLeDiff, Nat.reduceLT, Nat.reduceSub, Int.reduceNe, Int.reduceEq, Int.reduceLE, Int.reduceLT, Int.reduceToNat]
   refine AW.seq ?_
   refine AW.joinF [1, 13, 73, 74, 75, 76, 77, 78, 79, 80, 81, 82, 83, 84, 85, 86, 87, 88, 89, 90, 91, 92, 93] (fun g M' => M' = M5 ∧ g 1 = .int .i64 a') ?_ ?_
   ·by_cases ha0 : 0 < a'
    ·have hd0 : decide ((a' : Int) > 0) = true := decide_eq_true (by omega)
     have l1 := hR.ld (i := a' - 1) (by omega)
     have l2 := hR.ld (i := p) (by omega)
     (repeat (first | refine st ?_ | refine σa ?_ | refine d77_SoM ?_ | ((first | refine σb ?_ | refine σc ?_); simp (disch := omega) only [push_cast, ↓reduceIte, reduceCtorEq, ν1, ν2, ν3, ν4, ν5, ζ1, ζ2, ζ3, ζ4, ζ5, hd0, tn_sub1, l1, l2, hlen, w_i64, Int.toNat_natCast])))
     (refine (less_spec _ _ _).mono ?_; rintro r M3 ⟨rfl, rfl⟩; try refine ⟨Fr.refl _, ?_⟩)
     (repeat (first | refine st ?_ | refine σa ?_ | refine d77_SoM ?_ | ((first | refine σb ?_ | refine σc ?_); simp (disch := omega) only [push_cast, ↓reduceIte, reduceCtorEq, ν1, ν2, ν3, ν4, ν5, ζ1, ζ2, ζ3, ζ4, ζ5, hd0])))
     ((first | refine AL.gu rfl (fun hlt => ?_) (fun hlt => ?_) | refine AW.condS rfl rfl (fun hlt => ?_) (fun hlt => ?_)) <;> (try (have hlt' := hlt; simp only [Bool.not_eq_true', Bool.not_eq_false', Bool.not_true, Bool.not_false, decide_eq_true_eq, decide_eq_false_iff_not, Classical.not_not, Int.not_lt, Int.not_le, gt_iff_lt, ge_iff_le, beq_iff_eq] at hlt')))
     ·(repeat (first | refine st ?_ | refine σa ?_ | refine d77_SoM ?_ | ((first | refine σb ?_ | refine σc ?_); simp (disch := omega) only [push_cast, ↓reduceIte, reduceCtorEq, ν1, ν2, ν3, ν4, ν5, ζ1, ζ2, ζ3, ζ4, ζ5])))
      have hI := pe_spec hR a' (a' + len) p hp1 hp2 (by omega) hn
      rw [ec] at hI
      refine hI.mono ?_
      rintro r M6 ⟨mid, ys, rfl, rfl, hP, hm1, hm2, hlo⟩
      (repeat (first | refine st ?_ | refine σa ?_ | refine d77_SoM ?_ | ((first | refine σb ?_ | refine σc ?_); simp (disch := omega) only [push_cast, ↓reduceIte, reduceCtorEq, ν1, ν2, ν3, ν4, ν5, ζ1, ζ2, ζ3, ζ4, ζ5])))
      have hQ2 : PQ a e xs mid (a' + len) ys := by
       refine hQ.goEqual (p := zs.getD p 0) hbe hP (fun i i1 i2 => ?_) (by omega) hm2 hlo
       have := hQ.low (a' - 1) i (by omega) i1 i2
       omega
      exact ⟨rfl, m - 1, by omega, b8, rfl, b9, rfl, mid, rfl, a' + len, congrArg (Value.int .i64) (by omega), l', rfl, hl', hm2, by omega, by omega, ys, hR.put hP.len, hF.same (Fr.set _ _ _), hQ2⟩
     ·(repeat (first | refine st ?_ | refine σa ?_ | refine d77_SoM ?_ | ((first | refine σb ?_ | refine σc ?_); simp (disch := omega) only [push_cast, ↓reduceIte, reduceCtorEq, ν1, ν2, ν3, ν4, ν5, ζ1, ζ2, ζ3, ζ4, ζ5])))
      exact ⟨rfl, rfl, rfl⟩
    ·have hd0 : decide ((a' : Int) > 0) = false := decide_eq_false (by omega)
     (repeat (first | refine st ?_ | refine σa ?_ | refine d77_SoM ?_ | ((first | refine σb ?_ | refine σc ?_); simp (disch := omega) only [push_cast, ↓reduceIte, reduceCtorEq, ν1, ν2, ν3, ν4, ν5, ζ1, ζ2, ζ3, ζ4, ζ5, hd0])))
     exact ⟨rfl, rfl, rfl⟩
   rintro g5 M6 ⟨rfl, hg1⟩
   simp (disch := omega) only [push_cast, ↓reduceIte, reduceCtorEq, Nat.reduceAdd, Nat.reduceMul, Nat.reduceLeDiff, Nat.reduceLT, Nat.reduceSub, Int.reduceNe, Int.reduceEq, Int.reduceLE, Int.reduceLT, Int.reduceToNat, hg1]
   (repeat (first | refine st ?_ | refine σa ?_ | refine d77_SoM ?_ | ((first | refine σb ?_ | refine σc ?_); simp (disch := omega) only [push_cast, ↓reduceIte, reduceCtorEq, ν1, ν2, ν3, ν4, ν5, ζ1, ζ2, ζ3, ζ4, ζ5])))
   have hI := pt_spec hR a' (a' + len) p hp1 hp2 (by omega) hn
   rw [ec] at hI
   refine hI.mono ?_
   rintro r M7 ⟨mid, dd, ys, rfl, rfl, hP, hA⟩
   have ml := hA.ge
   have mr := hA.lt
   have hR2 := hR.put hP.len
   have hF2 := hF.same (Fr.set M6 b (.row true 1 (pre ++ ints .u32 ys ++ post)))
   have hQ2 := hQ.turn hP hbe
   clear hR hF hQ hzl hI
   generalize M6.set b (.row true 1 (pre ++ ints .u32 ys ++ post)) = M7 at *
   have hzl := hQ2.perm.len
   (repeat (first | refine st ?_ | refine σa ?_ | refine d77_SoM ?_ | ((first | refine σb ?_ | refine σc ?_); simp (disch := omega) only [push_cast, ↓reduceIte, reduceCtorEq, ν1, ν2, ν3, ν4, ν5, ζ1, ζ2, ζ3, ζ4, ζ5, w_i64, tdiv_in])))
   ((first | refine AL.gu rfl (fun hx => ?_) (fun hx => ?_) | refine AW.condS rfl rfl (fun hx => ?_) (fun hx => ?_)) <;> (try (have hx' := hx; simp only [Bool.not_eq_true', Bool.not_eq_false', Bool.not_true, Bool.not_false, decide_eq_true_eq, decide_eq_false_iff_not, Classical.not_not, Int.not_lt, Int.not_le, gt_iff_lt, ge_iff_le, beq_iff_eq] at hx')))
   ·(repeat (first | refine st ?_ | refine σa ?_ | refine d77_SoM ?_ | ((first | refine σb ?_ | refine σc ?_); simp (disch := omega) only [push_cast, ↓reduceIte, reduceCtorEq, ν1, ν2, ν3, ν4, ν5, ζ1, ζ2, ζ3, ζ4, ζ5])))
    refine (ih (mid - a') (by omega) hR2 a' mid l' rfl (by omega) (by omega) hn hl' (fun i j i1 j1 j2 => hQ2.low i j i1 j1 (by omega))).mono ?_
    rintro r M8 ⟨ws, hR3, hF3, hP3, hS3⟩
    (repeat (first | refine st ?_ | refine σa ?_ | refine d77_SoM ?_ | ((first | refine σb ?_ | refine σc ?_); simp (disch := omega) only [push_cast, ↓reduceIte, reduceCtorEq, ν1, ν2, ν3, ν4, ν5, ζ1, ζ2, ζ3, ζ4, ζ5, w_i64])))
    exact ⟨rfl, m - 1, by omega, _, rfl, dd, rfl, mid + 1, rfl, a' + len, congrArg (Value.int .i64) (by omega), l', rfl, hl', by omega, by omega, by omega, ws, hR3, hF2.same hF3, hQ2.goLeft hbe hA hP3 hS3⟩
   ·(repeat (first | refine st ?_ | refine σa ?_ | refine d77_SoM ?_ | ((first | refine σb ?_ | refine σc ?_); simp (disch := omega) only [push_cast, ↓reduceIte, reduceCtorEq, ν1, ν2, ν3, ν4, ν5, ζ1, ζ2, ζ3, ζ4, ζ5, w_i64])))
    have hI := ih (a' + len - (mid + 1)) (by omega) hR2 (mid + 1) (a' + len) l' rfl (by omega) (by omega) hn hl' (fun i j i1 j1 j2 => by
     by_cases hi : i < a'
     ·exact hQ2.low i j hi (by omega) j2
     ·have u1 : ys.getD i 0 ≤ ys.getD mid 0 := by
       by_cases e : i = mid
       ·rw [e]; exact Int.le_refl _
       ·exact hA.lo i (by omega) (by omega)
      exact Int.le_trans u1 (hA.hi j (by omega) j2))
    rw [ec, show ((mid + 1 : Nat) : Int) = (mid : Int) + 1 by omega] at hI
    refine hI.mono ?_
    rintro r M8 ⟨ws, hR3, hF3, hP3, hS3⟩
    (repeat (first | refine st ?_ | refine σa ?_ | refine d77_SoM ?_ | ((first | refine σb ?_ | refine σc ?_); simp (disch := omega) only [push_cast, ↓reduceIte, reduceCtorEq, ν1, ν2, ν3, ν4, ν5, ζ1, ζ2, ζ3, ζ4, ζ5])))
    exact ⟨rfl, m - 1, by omega, _, rfl, dd, rfl, a', rfl, mid, rfl, l', rfl, hl', by omega, by omega, by omega, ws, hR3, hF2.same hF3, hQ2.goRight hbe hA hP3 hS3⟩
theorem d108_SoN {g n : Prop} (k : n) (h : n → g := by first | exact AW.dr (id := 4) (by rfl) [0, 1, 2, 3, 4, 5, 6, 7, 8, 9, 10, 11, 12, 13, 14] (by kernel_rfl) (by kernel_rfl) | exact AW.dr (id := 6) (by rfl) [0, 1, 2, 3, 4, 5, 6, 7, 8, 9, 10, 11, 12, 13, 14, 15, 16, 17] (by kernel_rfl) (by kernel_rfl)) : g := h k
theorem d77_SoN {g n : Prop} (k : n) (h : n → g := by first | exact AW.dr (id := 17) (by rfl) [0, 1, 2, 3, 4, 5, 6, 7, 8, 9, 10, 11, 12, 13, 14] (by kernel_rfl) (by kernel_rfl)) : g := h k
theorem ins0_spec (v : Value) (M : Mem) : CallA Try.prog 108 [v, .int .i64 0, .int .i64 0] M fun _ M' => M' = M := by
 (refine CallA.of_body Try.func108 rfl (by rfl) ?_; simp only [Try.ntmps108, List.length_cons, List.length_nil, List.replicate, List.cons_append, List.nil_append, Nat.reduceSub, Nat.reduceAdd])
 (repeat (first | refine st ?_ | refine σa ?_ | refine d108_SoN ?_ | ((first | refine σb ?_ | refine σc ?_); simp (disch := omega) only [push_cast, ↓reduceIte, reduceCtorEq, ν1, ν2, ν3, ν4, ν5, ζ1, ζ2, ζ3, ζ4, ζ5, w_i64])))
 refine AW.loopF [6, 7, 10, 11, 12, 13, 14, 15, 16, 17, 18, 19, 20, 21, 22, 23, 24, 25, 26, 27, 28, 29, 30, 31, 32, 33, 34, 35, 36, 37, 38, 39, 40, 41, 42, 43, 44, 45, 46, 47, 48] (fun m g M' => g 6 = .int .i64 1 ∧ M' = M) 0 ?_ ?_
 ·exact ⟨rfl, rfl⟩
 rintro m g M1 ⟨h6, rfl⟩
 simp (disch := omega) only [push_cast, ↓reduceIte, reduceCtorEq, Nat.reduceAdd, Nat.reduceMul, Nat.reduceLeDiff, Nat.reduceLT, Nat.reduceSub, Int.reduceNe, Int.reduceEq, Int.reduceLE, Int.reduceLT, Int.reduceToNat, h6]
 have hd : decide ((1 : Int) < 0) = false := rfl
 (repeat (first | refine st ?_ | refine σa ?_ | refine d108_SoN ?_ | ((first | refine σb ?_ | refine σc ?_); simp (disch := omega) only [push_cast, ↓reduceIte, reduceCtorEq, ν1, ν2, ν3, ν4, ν5, ζ1, ζ2, ζ3, ζ4, ζ5, hd])))
 ((first | refine retA.ret (by rfl) ?_ | refine retA.normal (by rfl) ?_); simp (disch := omega) only [push_cast, ↓reduceIte, reduceCtorEq, Nat.reduceAdd, Nat.reduceMul, Nat.reduceLeDiff, Nat.reduceLT, Nat.reduceSub, Int.reduceNe, Int.reduceEq, Int.reduceLE, Int.reduceLT, Int.reduceToNat])
 exact ⟨_, rfl⟩
theorem pdq0_spec (v : Value) (M : Mem) (l : Int) : CallA Try.prog 77 [v, .int .i64 0, .int .i64 0, .int .i64 l] M fun _ M' => M' = M := by
 (refine CallA.of_body Try.func77 rfl (by rfl) ?_; simp only [Try.ntmps77, List.length_cons, List.length_nil, List.replicate, List.cons_append, List.nil_append, Nat.reduceSub, Nat.reduceAdd])
 (repeat (first | refine st ?_ | refine σa ?_ | refine d77_SoN ?_ | ((first | refine σb ?_ | refine σc ?_); simp (disch := omega) only [push_cast, ↓reduceIte, reduceCtorEq, ν1, ν2, ν3, ν4, ν5, ζ1, ζ2, ζ3, ζ4, ζ5])))
 refine AW.loopF [1, 2, 3, 8, 9, 10, 11, 12, 13, 14, 15, 16, 17, 18, 19, 20, 21, 22, 23, 24, 25, 26, 27, 28, 29, 30, 31, 32, 33, 34, 35, 36, 37, 38, 39, 40, 41, 42, 43, 44, 45, 46, 47, 48, 49, 50, 51, 52, 53, 54, 55, 56, 57, 58, 59, 60, 61, 62, 63, 64, 65, 66, 67, 68, 69, 70, 71, 72, 73, 74, 75, 76, 77, 78, 79, 80, 81, 82, 83, 84, 85, 86, 87, 88, 89, 90, 91, 92, 93, 94, 95, 96, 97, 98, 99, 100, 101, 102, 103, 104, 105, 106, 107, 108, 109, 110, 111, 112, 113, 114, 115, 116, 117, 118, 119, 120, 121, 122, 123, 124, 125, 126, 127, 128, 129, 130, 131, 132, 133] (fun m g M' => g 1 = .int .i64 0 ∧ g 2 = .int .i64 0 ∧ M' = M) 0 ?_ ?_
 ·exact ⟨rfl, rfl, rfl⟩
 rintro m g M1 ⟨h1, h2, rfl⟩
 simp (disch := omega) only [push_cast, ↓reduceIte, reduceCtorEq, Nat.reduceAdd, Nat.reduceMul, Nat.reduceLeDiff, Nat.reduceLT, Nat.reduceSub, Int.reduceNe, Int.reduceEq, Int.reduceLE, Int.reduceLT, Int.reduceToNat, h1, h2]
 have hd : decide ((0 : Int) ≤ 12) = true := rfl
 have h0 : (0 : Int) - 0 = 0 := rfl
 (repeat (first | refine st ?_ | refine σa ?_ | refine d77_SoN ?_ | ((first | refine σb ?_ | refine σc ?_); simp (disch := omega) only [push_cast, ↓reduceIte, reduceCtorEq, ν1, ν2, ν3, ν4, ν5, ζ1, ζ2, ζ3, ζ4, ζ5, w_i64, h0, hd])))
 refine (ins0_spec v _).mono ?_
 rintro r M2 rfl
 (repeat (first | refine st ?_ | refine σa ?_ | refine d77_SoN ?_ | ((first | refine σb ?_ | refine σc ?_); simp (disch := omega) only [push_cast, ↓reduceIte, reduceCtorEq, ν1, ν2, ν3, ν4, ν5, ζ1, ζ2, ζ3, ζ4, ζ5])))
 ((first | refine retA.ret (by rfl) ?_ | refine retA.normal (by rfl) ?_); simp (disch := omega) only [push_cast, ↓reduceIte, reduceCtorEq, Nat.reduceAdd, Nat.reduceMul, Nat.reduceLeDiff, Nat.reduceLT, Nat.reduceSub, Int.reduceNe, Int.reduceEq, Int.reduceLE, Int.reduceLT, Int.reduceToNat])
 exact ⟨_, rfl⟩
theorem Own.rw {M : Mem} {v : Value} {xs : List Int} (h : Own M v 1 (ints .u32 xs)) : (xs = [] ∧ sln v = 0) ∨ ∃ b off c pre, v = .slice (some ⟨b, off, none⟩) xs.length c ∧ Rw M b off xs.length c pre [] xs := by
 have hn := h.sl.lnI
 rcases h.own with rfl | ⟨a, rfl⟩ | ⟨b, off, n, c, cc, rfl, hc, hB, hend⟩
 ·exact .inl ⟨List.eq_nil_of_length_eq_zero hn.symm, rfl⟩
 ·exact .inl ⟨List.eq_nil_of_length_eq_zero hn.symm, rfl⟩
 ·right
  have hn : n = xs.length := hn
  subst hn
  have hd := h.get hB hend
  have hcap : xs.length ≤ capLb c := h.sl.caps
  refine ⟨b, off, c, cc.take off, rfl, ⟨?_, rfl, by simp; omega, hcap, hc⟩⟩
  rw [hB, List.append_nil, ← hd, List.take_append_drop]
theorem Rw.own {M : Mem} {b off c : Nat} {pre : List Value} {n : Nat} {xs : List Int} (h : Rw M b off n c pre [] xs) : Own M (.slice (some ⟨b, off, none⟩) n c) 1 (ints .u32 xs) := by
 have hl := h.len
 have ho := h.off
 refine Own.at (by omega) h.get (by simp [ints]; omega) ?_ (by simp [ints]; omega) (ints_one _ _) h.cap
 rw [List.append_nil, ← ho, List.drop_left]
theorem sort_spec (v : Value) (xs : List Int) (M : Mem) (hv : Own M v 1 (ints .u32 xs)) (hl : xs.length ≤ 1000000000) :
  CallA Try.prog 45 [v] M fun _ M' => ∃ ys, ys.Perm xs ∧ SortOn 0 xs.length ys ∧ Own M' v 1 (ints .u32 ys) ∧ Fr M M' (blkOf v) := by
 have hs := hv.sl.isSl
 have hn := hv.sl.lnI
 (refine CallA.of_body Try.func45 rfl (by rfl) ?_; simp only [Try.ntmps45, List.length_cons, List.length_nil, List.replicate, List.cons_append, List.nil_append, Nat.reduceSub, Nat.reduceAdd])
 (repeat (first | refine st ?_ | refine σa ?_ | (refine σb ?_; simp (disch := omega) only [push_cast, ↓reduceIte, reduceCtorEq, ν1, ν2, ν3, ν4, ν5, ζ1, ζ2, ζ3, ζ4, ζ5, hs, hn, w_u64])))
 refine (len_spec xs.length M hl).mono ?_
 rintro r M1 ⟨k, rfl, hk, -, rfl⟩
 (repeat (first | refine st ?_ | refine σa ?_ | (refine σb ?_; simp (disch := omega) only [push_cast, ↓reduceIte, reduceCtorEq, ν1, ν2, ν3, ν4, ν5, ζ1, ζ2, ζ3, ζ4, ζ5])))
 rcases hv.rw with ⟨rfl, h0⟩ | ⟨b, off, c, pre, rfl, hR⟩
 ·refine (pdq0_spec v M1 k).mono ?_
  rintro r M2 rfl
  (repeat (first | refine st ?_ | refine σa ?_ | (refine σb ?_; simp (disch := omega) only [push_cast, ↓reduceIte, reduceCtorEq, ν1, ν2, ν3, ν4, ν5, ζ1, ζ2, ζ3, ζ4, ζ5])))
  ((first | refine retA.ret (by rfl) ?_ | refine retA.normal (by rfl) ?_); simp (disch := omega) only [push_cast, ↓reduceIte, reduceCtorEq, Nat.reduceAdd, Nat.reduceMul, Nat.reduceLeDiff, Nat.reduceLT, Nat.reduceSub, Int.reduceNe, Int.reduceEq, Int.reduceLE, Int.reduceLT, Int.reduceToNat])
  exact ⟨[], .refl _, fun i j h1 h2 h3 => absurd h3 (by simp), hv, (Fr.refl M2).cut (by simp)⟩
 ·refine (pdq_spec xs.length hR 0 xs.length k rfl (by omega) (Nat.le_refl _) hl (by omega) (fun i j h1 h2 h3 => by omega)).mono ?_
  rintro r M2 ⟨ys, hR2, hF2, hP, hS⟩
  (repeat (first | refine st ?_ | refine σa ?_ | (refine σb ?_; simp (disch := omega) only [push_cast, ↓reduceIte, reduceCtorEq, ν1, ν2, ν3, ν4, ν5, ζ1, ζ2, ζ3, ζ4, ζ5])))
  ((first | refine retA.ret (by rfl) ?_ | refine retA.normal (by rfl) ?_); simp (disch := omega) only [push_cast, ↓reduceIte, reduceCtorEq, Nat.reduceAdd, Nat.reduceMul, Nat.reduceLeDiff, Nat.reduceLT, Nat.reduceSub, Int.reduceNe, Int.reduceEq, Int.reduceLE, Int.reduceLT, Int.reduceToNat])
  have hbk : blkOf (.slice (some ⟨b, off, none⟩) xs.length c) = [b] := by show (if c = 0 then [] else [b]) = [b]; rw [if_neg hR.pos]
  exact ⟨ys, hP.perm, hS, hR2.own, by rw [hbk]; exact hF2⟩
end Go.Proofs.Ytbdejnnbpdgjlaa.Ax
