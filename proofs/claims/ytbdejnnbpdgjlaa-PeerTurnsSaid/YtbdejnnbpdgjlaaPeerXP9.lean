/- Contracts of functions over the abstract machine. No conditions: lemmas alone. -/
import Derived.Test.YtbdejnnbpdgjlaaPeerXLibD
import Derived.Test.YtbdejnnbpdgjlaaPeerXP0
import Derived.Test.YtbdejnnbpdgjlaaPeerXP8
namespace Go.Proofs.Ytbdejnnbpdgjlaa.Ax
open Go Go.RowKit
open Nat renaming reduceAdd → ν1, reduceMul → ν2, reduceLeDiff → ν3, reduceLT → ν4, reduceSub → ν5
open Int renaming reduceNe → ζ1, reduceEq → ζ2, reduceLE → ζ3, reduceLT → ζ4, reduceToNat → ζ5
set_option linter.unusedVariables false
set_option linter.unusedSimpArgs false
set_option maxRecDepth 100000
set_option maxHeartbeats 20000000
attribute [local irreducible] thenA blockA scopeA retA AL AW AD ADL AH clrK CallA apure aload bload appK ptrK fnK ares szOk planOk okOps
theorem take_spec (s lo : Nat) (a : AV) (k : Int) (v : Value) (xs : List Int) (M : Mem) (hA : AVbox M s lo a) (hsl : s < lo) (hlo : lo ≤ M.length) (hv : Sl M v 1 (ints .u8 xs)) (hsv : s ∉ blkOf v) (hx : xs.length ≤ 100000) (hb : ∀ x ∈ xs, 0 ≤ x ∧ x ≤ 255) :
  CallA Try.prog 123 [.pointer (some ⟨s, 0, none⟩), .int .u8 k, v] M fun r M' => Fr M M' [s] ∧ r = .int .i64 (takeP a k xs).2 ∧ ((takeP a k xs).2 = 0 → AVbox M' s lo (takeP a k xs).1) ∧ ∃ cs, At M' s (.box cs) ∧ cs.length = 8 := by
 obtain ⟨p, c, hat, hp, hc, hpl, hcll⟩ := hA
 have hsp : s ∉ blkOf p := fun h => by have := hpl s h; omega
 have hsc : s ∉ blkOf c := fun h => by have := hcll s h; omega
 have hs := hv.isSl
 have hn := hv.lnI
 have hlt := hat.lt
 have hld := fun i h1 => hv.ldN (P := Try.prog) (ty := 5) (i := i) (by kernel_rfl) h1
 have hl0 := fun h1 => hv.ld0 (P := Try.prog) (ty := 5) (by kernel_rfl) h1
 have f1 : ∀ cs, Fr M (M.set s (.box cs)) [s] := fun cs => Fr.set M s _
 have a1 : ∀ cs, At (M.set s (.box cs)) s (.box cs) := fun cs => hat.set _
 (refine CallA.of_body Try.func123 rfl (by rfl) ?_; simp only [Try.ntmps123, List.length_cons, List.length_nil, List.replicate, List.cons_append, List.nil_append, Nat.reduceSub, Nat.reduceAdd])
 (repeat (first | refine st ?_ | refine σa ?_ | (refine σb ?_; simp (disch := omega) only [push_cast, ↓reduceIte, reduceCtorEq, ν1, ν2, ν3, ν4, ν5, ζ1, ζ2, ζ3, ζ4, ζ5, hs, hn])))
 refine (length_spec k xs.length M (by omega)).mono ?_
 rintro r M1 ⟨rfl, rfl⟩
 (repeat (first | refine st ?_ | refine σa ?_ | (refine σb ?_; simp (disch := omega) only [push_cast, ↓reduceIte, reduceCtorEq, ν1, ν2, ν3, ν4, ν5, ζ1, ζ2, ζ3, ζ4, ζ5])))
 by_cases hl : lenP k xs.length = false
 ·have e : takeP a k xs = (a, 5) := by unfold takeP; rw [if_pos hl]
  rw [e, hl]
  (repeat' (first | refine st ?_ | refine σa ?_ | (refine σb ?_; simp (disch := omega) only [push_cast, ↓reduceIte, reduceCtorEq, ν1, ν2, ν3, ν4, ν5, ζ1, ζ2, ζ3, ζ4, ζ5]) | (refine AL.gu rfl (fun h => ?_) (fun h => ?_) <;> try (simp only [Bool.not_eq_true', Bool.not_eq_false', Bool.not_true, Bool.not_false, decide_eq_true_eq, decide_eq_false_iff_not, Classical.not_not, Int.not_lt, Int.not_le, gt_iff_lt, ge_iff_le, beq_iff_eq] at h)) | (refine AW.condS rfl rfl (fun h => ?_) (fun h => ?_) <;> try (simp only [Bool.not_eq_true', Bool.not_eq_false', Bool.not_true, Bool.not_false, decide_eq_true_eq, decide_eq_false_iff_not, Classical.not_not, Int.not_lt, Int.not_le, gt_iff_lt, ge_iff_le, beq_iff_eq] at h)) | ((first | refine retA.ret (by rfl) ?_ | refine retA.normal (by rfl) ?_); simp (disch := omega) only [push_cast, ↓reduceIte, reduceCtorEq, Nat.reduceAdd, Nat.reduceMul, Nat.reduceLeDiff, Nat.reduceLT, Nat.reduceSub, Int.reduceNe, Int.reduceEq, Int.reduceLE, Int.reduceLT, Int.reduceToNat])))
  exact ⟨(Fr.refl M1).cut (by simp), fun h => absurd h (by decide), _, hat, rfl⟩
 ·have hl' : lenP k xs.length = true := by simpa using hl
  rw [hl']
  have b0 := getD_byte hb 0
  have b01 := b0.1
  have b02 := b0.2
  have four : k = 3 ∨ k = 4 ∨ k = 5 → xs.length = 4 := fun h => by
   unfold lenP at hl'
   rw [if_neg (by omega), if_pos h] at hl'
   have := of_decide_eq_true hl'
   omega
  have hlist : ∀ (hm : xs.length % 4 = 0) (K : Value → Mem → Prop), (∀ r M2, New M1 M2 r 1 (ints .u32 (words xs (xs.length / 4))) → Fr M1 M2 [] → K r M2) → CallA Try.prog 141 [v] M1 K :=
   fun hm K hK => (list_spec v xs M1 hv hm hx hb).mono fun r M2 h => hK r M2 h.1 h.2
  have hw4 : xs.length = 4 → words xs (xs.length / 4) = [wordAt xs 0] := fun h => by rw [h]; rfl
  by_cases k1 : k = 1
  ·subst k1
   have hlen : xs.length = 1 := by unfold lenP at hl'; simp at hl'; omega
   by_cases h2 : xs.getD 0 0 > 2
   ·have e : takeP a 1 xs = (a, 6) := by unfold takeP; rw [if_neg hl, if_pos rfl, if_pos h2]
    have d : decide (xs.getD 0 0 > 2) = true := decide_eq_true h2
    rw [e]
    (repeat (first | refine st ?_ | refine σa ?_ | (refine σb ?_; simp (disch := omega) only [push_cast, ↓reduceIte, reduceCtorEq, ν1, ν2, ν3, ν4, ν5, ζ1, ζ2, ζ3, ζ4, ζ5, hl0, hld, w_i64, hat.get, hat.ld, d, boxE])))
    ((first | refine retA.ret (by rfl) ?_ | refine retA.normal (by rfl) ?_); simp (disch := omega) only [push_cast, ↓reduceIte, reduceCtorEq, Nat.reduceAdd, Nat.reduceMul, Nat.reduceLeDiff, Nat.reduceLT, Nat.reduceSub, Int.reduceNe, Int.reduceEq, Int.reduceLE, Int.reduceLT, Int.reduceToNat])
    exact ⟨f1 _, fun h => absurd h (by decide), _, a1 _, rfl⟩
   ·have e : takeP a 1 xs = ({ a with origin := xs.getD 0 0 }, 0) := by unfold takeP; rw [if_neg hl, if_pos rfl, if_neg h2]
    have d : decide (xs.getD 0 0 > 2) = false := decide_eq_false h2
    rw [e]
    (repeat (first | refine st ?_ | refine σa ?_ | (refine σb ?_; simp (disch := omega) only [push_cast, ↓reduceIte, reduceCtorEq, ν1, ν2, ν3, ν4, ν5, ζ1, ζ2, ζ3, ζ4, ζ5, hl0, hld, w_i64, hat.get, hat.ld, d, boxE])))
    ((first | refine retA.ret (by rfl) ?_ | refine retA.normal (by rfl) ?_); simp (disch := omega) only [push_cast, ↓reduceIte, reduceCtorEq, Nat.reduceAdd, Nat.reduceMul, Nat.reduceLeDiff, Nat.reduceLT, Nat.reduceSub, Int.reduceNe, Int.reduceEq, Int.reduceLE, Int.reduceLT, Int.reduceToNat])
    exact ⟨f1 _, fun _ => ⟨p, c, a1 _, hp.boxSet hsp, hc.boxSet hsc, hpl, hcll⟩, _, a1 _, rfl⟩
  have d1 : decide (k = 1) = false := decide_eq_false k1
  by_cases k2 : k = 2
  ·subst k2
   (repeat (first | refine st ?_ | refine σa ?_ | (refine σb ?_; simp (disch := omega) only [push_cast, ↓reduceIte, reduceCtorEq, ν1, ν2, ν3, ν4, ν5, ζ1, ζ2, ζ3, ζ4, ζ5])))
   refine (seg_spec v xs M1 hv hx hb).mono ?_
   rintro r M2 ⟨hF, w, d, rfl, hR⟩
   have hat2 := hat.keep hF (by simp)
   have hlt2 := hat2.lt
   rcases hR with ⟨l, hl, rfl, hw, hwb⟩ | ⟨hl, rfl, l, hw, hwb⟩
   ·have e : takeP a 2 xs = ({ a with path := l }, 0) := by unfold takeP; rw [if_neg ‹_›, if_neg (by decide), if_pos rfl, hl]
    rw [e]
    have hsw : s ∉ blkOf w := fun h => by have := hwb s h; omega
    have hcl := isSl_cl hw.isSl
    have hon := isSl_one hw.isSl
    simp only [Value.oneCell'] at hon
    (repeat (first | refine st ?_ | refine σa ?_ | (refine σb ?_; simp (disch := omega) only [push_cast, ↓reduceIte, reduceCtorEq, ν1, ν2, ν3, ν4, ν5, ζ1, ζ2, ζ3, ζ4, ζ5, hat2.get, hcl, hon, boxE])))
    ((first | refine retA.ret (by rfl) ?_ | refine retA.normal (by rfl) ?_); simp (disch := omega) only [push_cast, ↓reduceIte, reduceCtorEq, Nat.reduceAdd, Nat.reduceMul, Nat.reduceLeDiff, Nat.reduceLT, Nat.reduceSub, Int.reduceNe, Int.reduceEq, Int.reduceLE, Int.reduceLT, Int.reduceToNat])
    exact ⟨(hF.trans (Fr.set M2 s _)).cut (by simp), fun _ => ⟨w, c, hat2.set _, hw.boxSet hsw, (hc.keep hF (by simp)).boxSet hsc, fun b hb => Nat.le_trans hlo (hwb b hb), hcll⟩, _, hat2.set _, rfl⟩
   ·have e : takeP a 2 xs = (a, 11) := by unfold takeP; rw [if_neg ‹_›, if_neg (by decide), if_pos rfl, hl]
    rw [e]
    have hcl := isSl_cl hw.isSl
    have hon := isSl_one hw.isSl
    simp only [Value.oneCell'] at hon
    (repeat (first | refine st ?_ | refine σa ?_ | (refine σb ?_; simp (disch := omega) only [push_cast, ↓reduceIte, reduceCtorEq, ν1, ν2, ν3, ν4, ν5, ζ1, ζ2, ζ3, ζ4, ζ5, hat2.get, hcl, hon, boxE])))
    ((first | refine retA.ret (by rfl) ?_ | refine retA.normal (by rfl) ?_); simp (disch := omega) only [push_cast, ↓reduceIte, reduceCtorEq, Nat.reduceAdd, Nat.reduceMul, Nat.reduceLeDiff, Nat.reduceLT, Nat.reduceSub, Int.reduceNe, Int.reduceEq, Int.reduceLE, Int.reduceLT, Int.reduceToNat])
    exact ⟨(hF.trans (Fr.set M2 s _)).cut (by simp), fun h => absurd h (by decide), _, hat2.set _, rfl⟩
  have d2 : decide (k = 2) = false := decide_eq_false k2
  by_cases k3 : k = 3
  ·subst k3
   have h4 := four (by omega)
   (repeat (first | refine st ?_ | refine σa ?_ | (refine σb ?_; simp (disch := omega) only [push_cast, ↓reduceIte, reduceCtorEq, ν1, ν2, ν3, ν4, ν5, ζ1, ζ2, ζ3, ζ4, ζ5])))
   refine hlist (by omega) _ fun r M2 hN hF => ?_
   rw [hw4 h4] at hN
   have hat2 := hat.keep hF (by simp)
   have hlt2 := hat2.lt
   have hrs := hN.sl.isSl
   have hrn := hN.sl.lnI
   have hrl := hN.sl.ld0 (P := Try.prog) (ty := 30) (by kernel_rfl) (by simp)
   by_cases h0 : wordAt xs 0 = 0 ∨ wordAt xs 0 ≥ 3758096384
   ·have e : takeP a 3 xs = (a, 8) := by unfold takeP; rw [if_neg hl, if_neg (by decide), if_neg (by decide), if_pos rfl, if_pos h0]
    rw [e]
    by_cases h1 : wordAt xs 0 = 0
    ·have d0 : decide (wordAt xs 0 = 0) = true := decide_eq_true h1
     (repeat (first | refine st ?_ | refine σa ?_ | (refine σb ?_; simp (disch := omega) only [push_cast, ↓reduceIte, reduceCtorEq, ν1, ν2, ν3, ν4, ν5, ζ1, ζ2, ζ3, ζ4, ζ5, hrs, hrn, hrl, List.length_singleton, List.getD_cons_zero, hat2.get, d0, boxE])))
     ((first | refine retA.ret (by rfl) ?_ | refine retA.normal (by rfl) ?_); simp (disch := omega) only [push_cast, ↓reduceIte, reduceCtorEq, Nat.reduceAdd, Nat.reduceMul, Nat.reduceLeDiff, Nat.reduceLT, Nat.reduceSub, Int.reduceNe, Int.reduceEq, Int.reduceLE, Int.reduceLT, Int.reduceToNat])
     exact ⟨(hF.trans (Fr.set M2 s _)).cut (by simp), fun h => absurd h (by decide), _, hat2.set _, rfl⟩
    ·have d0 : decide (wordAt xs 0 = 0) = false := decide_eq_false h1
     have d3 : decide (wordAt xs 0 ≥ 3758096384) = true := decide_eq_true (by omega)
     (repeat (first | refine st ?_ | refine σa ?_ | (refine σb ?_; simp (disch := omega) only [push_cast, ↓reduceIte, reduceCtorEq, ν1, ν2, ν3, ν4, ν5, ζ1, ζ2, ζ3, ζ4, ζ5, hrs, hrn, hrl, List.length_singleton, List.getD_cons_zero, hat2.get, d0, d3, boxE])))
     ((first | refine retA.ret (by rfl) ?_ | refine retA.normal (by rfl) ?_); simp (disch := omega) only [push_cast, ↓reduceIte, reduceCtorEq, Nat.reduceAdd, Nat.reduceMul, Nat.reduceLeDiff, Nat.reduceLT, Nat.reduceSub, Int.reduceNe, Int.reduceEq, Int.reduceLE, Int.reduceLT, Int.reduceToNat])
     exact ⟨(hF.trans (Fr.set M2 s _)).cut (by simp), fun h => absurd h (by decide), _, hat2.set _, rfl⟩
   ·have e : takeP a 3 xs = ({ a with hop := wordAt xs 0 }, 0) := by unfold takeP; rw [if_neg hl, if_neg (by decide), if_neg (by decide), if_pos rfl, if_neg h0]
    rw [e]
    have d0 : decide (wordAt xs 0 = 0) = false := decide_eq_false (by omega)
    have d3 : decide (wordAt xs 0 ≥ 3758096384) = false := decide_eq_false (by omega)
    (repeat (first | refine st ?_ | refine σa ?_ | (refine σb ?_; simp (disch := omega) only [push_cast, ↓reduceIte, reduceCtorEq, ν1, ν2, ν3, ν4, ν5, ζ1, ζ2, ζ3, ζ4, ζ5, hrs, hrn, hrl, List.length_singleton, List.getD_cons_zero, hat2.get, d0, d3, boxE])))
    ((first | refine retA.ret (by rfl) ?_ | refine retA.normal (by rfl) ?_); simp (disch := omega) only [push_cast, ↓reduceIte, reduceCtorEq, Nat.reduceAdd, Nat.reduceMul, Nat.reduceLeDiff, Nat.reduceLT, Nat.reduceSub, Int.reduceNe, Int.reduceEq, Int.reduceLE, Int.reduceLT, Int.reduceToNat])
    exact ⟨(hF.trans (Fr.set M2 s _)).cut (by simp), fun _ => ⟨p, c, hat2.set _, (hp.keep hF (by simp)).boxSet hsp, (hc.keep hF (by simp)).boxSet hsc, hpl, hcll⟩, _, hat2.set _, rfl⟩
  have d3 : decide (k = 3) = false := decide_eq_false k3
  by_cases k4 : k = 4
  ·subst k4
   have h4 := four (by omega)
   have e : takeP a 4 xs = ({ a with med := wordAt xs 0, hasMed := true }, 0) := by unfold takeP; rw [if_neg hl, if_neg (by decide), if_neg (by decide), if_neg (by decide), if_pos rfl]
   rw [e]
   (repeat (first | refine st ?_ | refine σa ?_ | (refine σb ?_; simp (disch := omega) only [push_cast, ↓reduceIte, reduceCtorEq, ν1, ν2, ν3, ν4, ν5, ζ1, ζ2, ζ3, ζ4, ζ5])))
   refine hlist (by omega) _ fun r M2 hN hF => ?_
   rw [hw4 h4] at hN
   have hat2 := hat.keep hF (by simp)
   have hlt2 := hat2.lt
   have hrs := hN.sl.isSl
   have hrn := hN.sl.lnI
   have hrl := hN.sl.ld0 (P := Try.prog) (ty := 30) (by kernel_rfl) (by simp)
   (repeat (first | refine st ?_ | refine σa ?_ | (refine σb ?_; simp (disch := omega) only [push_cast, ↓reduceIte, reduceCtorEq, ν1, ν2, ν3, ν4, ν5, ζ1, ζ2, ζ3, ζ4, ζ5, hrs, hrn, hrl, List.length_singleton, List.getD_cons_zero, hat2.get, boxE])))
   ((first | refine retA.ret (by rfl) ?_ | refine retA.normal (by rfl) ?_); simp (disch := omega) only [push_cast, ↓reduceIte, reduceCtorEq, Nat.reduceAdd, Nat.reduceMul, Nat.reduceLeDiff, Nat.reduceLT, Nat.reduceSub, Int.reduceNe, Int.reduceEq, Int.reduceLE, Int.reduceLT, Int.reduceToNat])
   exact ⟨(hF.trans (Fr.set M2 s _)).cut (by simp), fun _ => ⟨p, c, hat2.set _, (hp.keep hF (by simp)).boxSet hsp, (hc.keep hF (by simp)).boxSet hsc, hpl, hcll⟩, _, hat2.set _, rfl⟩
  have d4 : decide (k = 4) = false := decide_eq_false k4
  by_cases k5 : k = 5
  ·subst k5
   have h4 := four (by omega)
   have e : takeP a 5 xs = ({ a with pref := wordAt xs 0, hasPref := true }, 0) := by unfold takeP; rw [if_neg hl, if_neg (by decide), if_neg (by decide), if_neg (by decide), if_neg (by decide), if_pos rfl]
   rw [e]
   (repeat (first | refine st ?_ | refine σa ?_ | (refine σb ?_; simp (disch := omega) only [push_cast, ↓reduceIte, reduceCtorEq, ν1, ν2, ν3, ν4, ν5, ζ1, ζ2, ζ3, ζ4, ζ5])))
   refine hlist (by omega) _ fun r M2 hN hF => ?_
   rw [hw4 h4] at hN
   have hat2 := hat.keep hF (by simp)
   have hlt2 := hat2.lt
   have hrs := hN.sl.isSl
   have hrn := hN.sl.lnI
   have hrl := hN.sl.ld0 (P := Try.prog) (ty := 30) (by kernel_rfl) (by simp)
   (repeat (first | refine st ?_ | refine σa ?_ | (refine σb ?_; simp (disch := omega) only [push_cast, ↓reduceIte, reduceCtorEq, ν1, ν2, ν3, ν4, ν5, ζ1, ζ2, ζ3, ζ4, ζ5, hrs, hrn, hrl, List.length_singleton, List.getD_cons_zero, hat2.get, boxE])))
   ((first | refine retA.ret (by rfl) ?_ | refine retA.normal (by rfl) ?_); simp (disch := omega) only [push_cast, ↓reduceIte, reduceCtorEq, Nat.reduceAdd, Nat.reduceMul, Nat.reduceLeDiff, Nat.reduceLT, Nat.reduceSub, Int.reduceNe, Int.reduceEq, Int.reduceLE, Int.reduceLT, Int.reduceToNat])
   exact ⟨(hF.trans (Fr.set M2 s _)).cut (by simp), fun _ => ⟨p, c, hat2.set _, (hp.keep hF (by simp)).boxSet hsp, (hc.keep hF (by simp)).boxSet hsc, hpl, hcll⟩, _, hat2.set _, rfl⟩
  have d5 : decide (k = 5) = false := decide_eq_false k5
  by_cases k8 : k = 8
  ·subst k8
   have h4 : xs.length % 4 = 0 := by
    unfold lenP at hl'
    rw [if_neg (by decide), if_neg (by decide), if_pos rfl] at hl'
    have := of_decide_eq_true hl'
    omega
   (repeat (first | refine st ?_ | refine σa ?_ | (refine σb ?_; simp (disch := omega) only [push_cast, ↓reduceIte, reduceCtorEq, ν1, ν2, ν3, ν4, ν5, ζ1, ζ2, ζ3, ζ4, ζ5])))
   refine hlist h4 _ fun r M2 hN hF => ?_
   have hat2 := hat.keep hF (by simp)
   have hlt2 := hat2.lt
   have hcl := isSl_cl hN.sl.isSl
   have hon := isSl_one hN.sl.isSl
   simp only [Value.oneCell'] at hon
   have hsr : s ∉ blkOf r := fun h => by have := hN.blk s h; omega
   (repeat (first | refine st ?_ | refine σa ?_ | (refine σb ?_; simp (disch := omega) only [push_cast, ↓reduceIte, reduceCtorEq, ν1, ν2, ν3, ν4, ν5, ζ1, ζ2, ζ3, ζ4, ζ5, hat2.get, hcl, hon, boxE])))
   have hwl : (words xs (xs.length / 4)).length ≤ 100000 := by rw [words_length]; omega
   have hO := hN.1.keep (Fr.set M2 s (.box [.int .i64 a.origin, p, .int .u32 a.hop, .int .u32 a.med, .int .u32 a.pref, .bool a.hasMed, .bool a.hasPref, r])) (by intro b hb hx; simp at hx; subst hx; exact hsr hb)
   refine (sort_spec r _ _ hO (by omega)).mono ?_
   rintro r2 M3 ⟨ys, hPm, hSo, hO3, hF3⟩
   have hat3 := (hat2.set (.box [.int .i64 a.origin, p, .int .u32 a.hop, .int .u32 a.med, .int .u32 a.pref, .bool a.hasMed, .bool a.hasPref, r])).keep hF3 hsr
   have hlt3 := hat3.lt
   (repeat (first | refine st ?_ | refine σa ?_ | (refine σb ?_; simp (disch := omega) only [push_cast, ↓reduceIte, reduceCtorEq, ν1, ν2, ν3, ν4, ν5, ζ1, ζ2, ζ3, ζ4, ζ5, hat3.ld])))
   refine (comp_spec r ys M3 hO3 (by rw [hPm.length_eq]; omega)).mono ?_
   rintro r3 M4 ⟨hS4, hF4, hB4⟩
   rw [ddN_uniq hPm (by rw [hPm.length_eq]; exact hSo)] at hS4
   have hat4 := hat3.keep hF4 hsr
   have hlt4 := hat4.lt
   have hs4 := hS4.isSl
   have hn4 := hS4.lnI
   have hcl4 := isSl_cl hs4
   have hon4 := isSl_one hs4
   simp only [Value.oneCell'] at hon4
   have hsr3 : s ∉ blkOf r3 := fun h => hsr (hB4 s h)
   have hFa : Fr M1 M4 [s] := (((hF.trans (Fr.set M2 s _)).trans hF3).trans hF4).cut (by
    intro x hx hxl
    simp only [List.nil_append, List.mem_append, List.mem_singleton] at hx ⊢
    rcases hx with (hx | hx) | hx
    ·exact hx
    ·have := hN.blk x hx; omega
    ·have := hN.blk x hx; omega)
   have hpk := hp.keep hFa (by intro b hb hx; simp at hx; subst hx; exact hsp hb)
   by_cases hbig : (uniq (words xs (xs.length / 4))).length > 255
   ·have e : takeP a 8 xs = (a, 9) := by unfold takeP; rw [if_neg hl, if_neg (by decide), if_neg (by decide), if_neg (by decide), if_neg (by decide), if_neg (by decide), if_pos rfl, if_pos hbig]
    rw [e]
    have dg : decide (((uniq (words xs (xs.length / 4))).length : Int) > 255) = true := decide_eq_true (by omega)
    (repeat (first | refine st ?_ | refine σa ?_ | (refine σb ?_; simp (disch := omega) only [push_cast, ↓reduceIte, reduceCtorEq, ν1, ν2, ν3, ν4, ν5, ζ1, ζ2, ζ3, ζ4, ζ5, hat4.get, hcl4, hon4, hs4, hn4, dg, boxE])))
    ((first | refine retA.ret (by rfl) ?_ | refine retA.normal (by rfl) ?_); simp (disch := omega) only [push_cast, ↓reduceIte, reduceCtorEq, Nat.reduceAdd, Nat.reduceMul, Nat.reduceLeDiff, Nat.reduceLT, Nat.reduceSub, Int.reduceNe, Int.reduceEq, Int.reduceLE, Int.reduceLT, Int.reduceToNat])
    exact ⟨(hFa.trans (Fr.set M4 s _)).cut (by simp), fun h => absurd h (by decide), _, hat4.set _, rfl⟩
   ·have e : takeP a 8 xs = ({ a with comms := uniq (words xs (xs.length / 4)) }, 0) := by unfold takeP; rw [if_neg hl, if_neg (by decide), if_neg (by decide), if_neg (by decide), if_neg (by decide), if_neg (by decide), if_pos rfl, if_neg hbig]
    rw [e]
    have dg : decide (((uniq (words xs (xs.length / 4))).length : Int) > 255) = false := decide_eq_false (by omega)
    (repeat (first | refine st ?_ | refine σa ?_ | (refine σb ?_; simp (disch := omega) only [push_cast, ↓reduceIte, reduceCtorEq, ν1, ν2, ν3, ν4, ν5, ζ1, ζ2, ζ3, ζ4, ζ5, hat4.get, hcl4, hon4, hs4, hn4, dg, boxE])))
    ((first | refine retA.ret (by rfl) ?_ | refine retA.normal (by rfl) ?_); simp (disch := omega) only [push_cast, ↓reduceIte, reduceCtorEq, Nat.reduceAdd, Nat.reduceMul, Nat.reduceLeDiff, Nat.reduceLT, Nat.reduceSub, Int.reduceNe, Int.reduceEq, Int.reduceLE, Int.reduceLT, Int.reduceToNat])
    exact ⟨(hFa.trans (Fr.set M4 s _)).cut (by simp), fun _ => ⟨p, r3, hat4.set _, hpk.boxSet hsp, hS4.boxSet hsr3, hpl, fun b hb => Nat.le_trans hlo (hN.blk b (hB4 b hb))⟩, _, hat4.set _, rfl⟩
  have d8 : decide (k = 8) = false := decide_eq_false k8
  have e : takeP a k xs = (a, 0) := by unfold takeP; rw [if_neg hl, if_neg k1, if_neg k2, if_neg k3, if_neg k4, if_neg k5, if_neg k8]
  rw [e]
  (repeat (first | refine st ?_ | refine σa ?_ | (refine σb ?_; simp (disch := omega) only [push_cast, ↓reduceIte, reduceCtorEq, ν1, ν2, ν3, ν4, ν5, ζ1, ζ2, ζ3, ζ4, ζ5, d1, d2, d3, d4, d5, d8])))
  ((first | refine retA.ret (by rfl) ?_ | refine retA.normal (by rfl) ?_); simp (disch := omega) only [push_cast, ↓reduceIte, reduceCtorEq, Nat.reduceAdd, Nat.reduceMul, Nat.reduceLeDiff, Nat.reduceLT, Nat.reduceSub, Int.reduceNe, Int.reduceEq, Int.reduceLE, Int.reduceLT, Int.reduceToNat])
  exact ⟨(Fr.refl M1).cut (by simp), fun _ => ⟨p, c, hat, hp, hc, hpl, hcll⟩, _, hat, rfl⟩
end Go.Proofs.Ytbdejnnbpdgjlaa.Ax
