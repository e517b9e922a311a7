/- Contracts of functions over the abstract machine. No conditions: lemmas alone. -/
import Derived.Test.YtbdejnnbpdgjlaaPeerXLibD
import Derived.Test.YtbdejnnbpdgjlaaPeerXP0
import Derived.Test.YtbdejnnbpdgjlaaPeerXP14
import Derived.Test.YtbdejnnbpdgjlaaPeerXP11
import Derived.Test.YtbdejnnbpdgjlaaPeerXP12
namespace Go.Proofs.Ytbdejnnbpdgjlaa.Ax
open Go Go.RowKit
open Nat renaming reduceAdd → ν1, reduceMul → ν2, reduceLeDiff → ν3, reduceLT → ν4, reduceSub → ν5
open Int renaming reduceNe → ζ1, reduceEq → ζ2, reduceLE → ζ3, reduceLT → ζ4, reduceToNat → ζ5
set_option linter.unusedVariables false
set_option linter.unusedSimpArgs false
set_option maxRecDepth 100000
set_option maxHeartbeats 20000000
attribute [local irreducible] thenA blockA scopeA retA AL AW AD ADL AH clrK CallA apure aload bload appK ptrK fnK ares szOk planOk okOps
theorem e24 : (2 : Int) ^ min 24 IntKind.u32.bits = 16777216 := by decide
theorem e16 : (2 : Int) ^ min 16 IntKind.u32.bits = 65536 := by decide
theorem e8 : (2 : Int) ^ min 8 IntKind.u32.bits = 256 := by decide
theorem e8i : (2 : Int) ^ min 8 IntKind.i64.bits = 256 := by decide
theorem anums_spec (v : Value) (xs : List Int) (M : Mem) (hv : Sl M v 1 (ints .u32 xs)) (hb : ∀ x ∈ xs, 0 ≤ x ∧ x ≤ 4294967295) (hl : xs.length ≤ 1000000) : CallA Try.prog 132 [v] M fun r M' => New M M' r 1 (ints .u8 (foursL xs)) ∧ Fr M M' [] := by
 have hs := hv.isSl
 have hn := hv.lnI
 (refine CallA.of_body Try.func132 rfl (by rfl) ?_; simp only [Try.ntmps132, List.length_cons, List.length_nil, List.replicate, List.cons_append, List.nil_append, Nat.reduceSub, Nat.reduceAdd])
 (repeat (first | refine st ?_ | refine σa ?_ | (refine σb ?_; simp (disch := omega) only [push_cast, ↓reduceIte, reduceCtorEq, ν1, ν2, ν3, ν4, ν5, ζ1, ζ2, ζ3, ζ4, ζ5, hs, hn])))
 refine AW.loopF [3, 5, 8, 9, 10, 11, 12, 13, 14, 15, 16, 17, 18, 19, 20, 21, 22, 23, 24, 25, 26] (fun n f M' => ∃ i : Nat, f 8 = .int .i64 i ∧ i + n = xs.length ∧ ∃ o, f 3 = o ∧ New M M' o 1 (ints .u8 (foursL (xs.take i))) ∧ Fr M M' []) xs.length ?_ ?_
 ·exact ⟨0, rfl, by omega, _, rfl, New.nil M (by omega), Fr.refl M⟩
 rintro n f M1 ⟨i, h8, hi, o, h3, hN, hF⟩
 simp (disch := omega) only [push_cast, ↓reduceIte, reduceCtorEq, Nat.reduceAdd, Nat.reduceMul, Nat.reduceLeDiff, Nat.reduceLT, Nat.reduceSub, Int.reduceNe, Int.reduceEq, Int.reduceLE, Int.reduceLT, Int.reduceToNat, h8, h3]
 (repeat (first | refine st ?_ | refine σa ?_ | (refine σb ?_; simp (disch := omega) only [push_cast, ↓reduceIte, reduceCtorEq, ν1, ν2, ν3, ν4, ν5, ζ1, ζ2, ζ3, ζ4, ζ5])))
 ((first | refine AL.gu rfl (fun h => ?_) (fun h => ?_) | refine AW.condS rfl rfl (fun h => ?_) (fun h => ?_)) <;> (try (have h' := h; simp only [Bool.not_eq_true', Bool.not_eq_false', Bool.not_true, Bool.not_false, decide_eq_true_eq, decide_eq_false_iff_not, Classical.not_not, Int.not_lt, Int.not_le, gt_iff_lt, ge_iff_le, beq_iff_eq] at h')))
 ·have hil : i < xs.length := by omega
  have hv1 := hv.keep hF (by simp)
  have hld := hv1.ldN (P := Try.prog) (ty := 30) (i := i) (by kernel_rfl) hil
  have hx := hb _ (getD_mem hil)
  generalize hxe : xs.getD i 0 = x at *
  have hx0 := hx.1
  have hx1 := hx.2
  have q24 : x / 16777216 % 256 = x / 16777216 := by omega
  (repeat (first | refine st ?_ | refine σa ?_ | (refine σb ?_; simp (disch := omega) only [push_cast, ↓reduceIte, reduceCtorEq, ν1, ν2, ν3, ν4, ν5, ζ1, ζ2, ζ3, ζ4, ζ5, hs, hn, hld, Int.toNat_natCast, fdiv_in, e24, e16, e8, wm_u8, q24])))
  have hrow := New.row M1 (s := 1) (n := 4) (cs := ints .u8 [x / 16777216, x / 65536 % 256, x / 256 % 256, x % 256]) (by omega) rfl rfl (by decide)
  have hN' := hN.keep (Fr.push M1 (.row true 1 (ints .u8 [x / 16777216, x / 65536 % 256, x / 256 % 256, x % 256]))) (by simp)
  have hlen : (foursL (xs.take i)).length ≤ 4 * i := by rw [foursL_length]; simp; omega
  refine appK.ints (P := Try.prog) (e := 5) (bt := 1) (z := .int .u8 0) (by kernel_rfl) (by kernel_rfl) (by kernel_rfl) (by kernel_rfl) (by decide) hN'.1 hrow.sl (by simp; omega) ?_
  intro v' M3 hN3 hF3
  (repeat (first | refine st ?_ | refine σa ?_ | (refine σb ?_; simp (disch := omega) only [push_cast, ↓reduceIte, reduceCtorEq, ν1, ν2, ν3, ν4, ν5, ζ1, ζ2, ζ3, ζ4, ζ5])))
  refine ⟨rfl, n - 1, by omega, i + 1, by simp (disch := omega) only [push_cast, ↓reduceIte, reduceCtorEq, Nat.reduceAdd, Nat.reduceMul, Nat.reduceLeDiff, Nat.reduceLT, Nat.reduceSub, Int.reduceNe, Int.reduceEq, Int.reduceLE, Int.reduceLT, Int.reduceToNat, w_i64], by omega, ?_, (hF.tr (Fr.push M1 _)).new hN' hF3⟩
  have e : foursL (xs.take (i + 1)) = foursL (xs.take i) ++ [x / 16777216, x / 65536 % 256, x / 256 % 256, x % 256] := by
   rw [take_snocI hil, hxe]; simp [foursL, List.flatMap_append]
  rw [e]
  exact hN3.after (hF.tr (Fr.push M1 _))
 ·(repeat (first | refine st ?_ | refine σa ?_ | (refine σb ?_; simp (disch := omega) only [push_cast, ↓reduceIte, reduceCtorEq, ν1, ν2, ν3, ν4, ν5, ζ1, ζ2, ζ3, ζ4, ζ5])))
  ((first | refine retA.ret (by rfl) ?_ | refine retA.normal (by rfl) ?_); simp (disch := omega) only [push_cast, ↓reduceIte, reduceCtorEq, Nat.reduceAdd, Nat.reduceMul, Nat.reduceLeDiff, Nat.reduceLT, Nat.reduceSub, Int.reduceNe, Int.reduceEq, Int.reduceLE, Int.reduceLT, Int.reduceToNat])
  obtain rfl : i = xs.length := by omega
  rw [List.take_length] at hN
  exact ⟨hN, hF⟩
theorem New.lit (M : Mem) (n : Nat) (xs : List Int) (h : n = xs.length) (hn : n < capLow) : New M (M ++ [.row true 1 (ints .u8 xs)]) (.slice (some ⟨M.length, 0, none⟩) n n) 1 (ints .u8 xs) := New.row M (by omega) (by rw [ints_length]; omega) (ints_one _ _) hn
theorem right_spec (a : AV) (p c : Value) (M : Mem) (hp : Sl M p 1 (ints .u32 a.path)) (hc : Sl M c 1 (ints .u32 a.comms)) (h1 : a.path.length ≤ 1000000000) (h2 : a.comms.length ≤ 1000000000) : CallA Try.prog 98 [.agg ⟨avL a p c⟩] M fun r M' => Fr M M' [] ∧ r = .bool (decide (rightP a)) := by
 unfold avL
 have fb := Fr.push M (.box (avL a p c))
 have hcp := isSl_cl hp.isSl
 have hcc := isSl_cl hc.isSl
 (refine CallA.of_body Try.func98 rfl (by rfl) ?_; simp only [Try.ntmps98, List.length_cons, List.length_nil, List.replicate, List.cons_append, List.nil_append, Nat.reduceSub, Nat.reduceAdd])
 (repeat (first | refine st ?_ | refine σa ?_ | (refine σb ?_; simp (disch := omega) only [push_cast, ↓reduceIte, reduceCtorEq, ν1, ν2, ν3, ν4, ν5, ζ1, ζ2, ζ3, ζ4, ζ5, memE, boxE])))
 by_cases c1 : a.hop = 0
 ·have d : decide (a.hop = 0) = true := decide_eq_true c1
  (repeat (first | refine st ?_ | refine σa ?_ | (refine σb ?_; simp (disch := omega) only [push_cast, ↓reduceIte, reduceCtorEq, ν1, ν2, ν3, ν4, ν5, ζ1, ζ2, ζ3, ζ4, ζ5, d, memE, boxE])))
  ((first | refine retA.ret (by rfl) ?_ | refine retA.normal (by rfl) ?_); simp (disch := omega) only [push_cast, ↓reduceIte, reduceCtorEq, Nat.reduceAdd, Nat.reduceMul, Nat.reduceLeDiff, Nat.reduceLT, Nat.reduceSub, Int.reduceNe, Int.reduceEq, Int.reduceLE, Int.reduceLT, Int.reduceToNat])
  exact ⟨Fr.push M _, by rw [decide_eq_false]; exact fun h => h.2.2.2.2.2.2.1 c1⟩
 have d1 : decide (a.hop = 0) = false := decide_eq_false c1
 by_cases c2 : a.hop ≥ 3758096384
 ·have d : decide (a.hop ≥ 3758096384) = true := decide_eq_true c2
  (repeat (first | refine st ?_ | refine σa ?_ | (refine σb ?_; simp (disch := omega) only [push_cast, ↓reduceIte, reduceCtorEq, ν1, ν2, ν3, ν4, ν5, ζ1, ζ2, ζ3, ζ4, ζ5, d1, d, memE, boxE])))
  ((first | refine retA.ret (by rfl) ?_ | refine retA.normal (by rfl) ?_); simp (disch := omega) only [push_cast, ↓reduceIte, reduceCtorEq, Nat.reduceAdd, Nat.reduceMul, Nat.reduceLeDiff, Nat.reduceLT, Nat.reduceSub, Int.reduceNe, Int.reduceEq, Int.reduceLE, Int.reduceLT, Int.reduceToNat])
  exact ⟨Fr.push M _, by rw [decide_eq_false]; exact fun h => by have := h.2.2.2.2.2.2.2.1; omega⟩
 have d2 : decide (a.hop ≥ 3758096384) = false := decide_eq_false c2
 by_cases c3 : a.hasMed = false ∧ a.med ≠ 0
 ·have hm := c3.1
  have dm : decide (a.med = 0) = false := decide_eq_false c3.2
  (repeat (first | refine st ?_ | refine σa ?_ | (refine σb ?_; simp (disch := omega) only [push_cast, ↓reduceIte, reduceCtorEq, ν1, ν2, ν3, ν4, ν5, ζ1, ζ2, ζ3, ζ4, ζ5, d1, d2, hm, dm, Bool.not_true, Bool.not_false, memE, boxE])))
  ((first | refine retA.ret (by rfl) ?_ | refine retA.normal (by rfl) ?_); simp (disch := omega) only [push_cast, ↓reduceIte, reduceCtorEq, Nat.reduceAdd, Nat.reduceMul, Nat.reduceLeDiff, Nat.reduceLT, Nat.reduceSub, Int.reduceNe, Int.reduceEq, Int.reduceLE, Int.reduceLT, Int.reduceToNat])
  exact ⟨Fr.push M _, by rw [decide_eq_false]; exact fun h => c3.2 (h.2.2.2.2.2.2.2.2.1 c3.1)⟩
 have hm : (a.hasMed = true ∧ decide ((0 : Int) = 0) = true) ∨ (a.hasMed = false ∧ decide (a.med = 0) = true) := by
  cases h : a.hasMed with
  | true => exact .inl ⟨rfl, rfl⟩
  | false => exact .inr ⟨rfl, decide_eq_true (by by_cases h0 : a.med = 0; exact h0; exact absurd ⟨h, h0⟩ c3)⟩
 by_cases c4 : a.hasPref = false ∧ a.pref ≠ 0
 ·have hq := c4.1
  have dq : decide (a.pref = 0) = false := decide_eq_false c4.2
  rcases hm with ⟨hm, dm⟩ | ⟨hm, dm⟩
  all_goals
   (repeat (first | refine st ?_ | refine σa ?_ | (refine σb ?_; simp (disch := omega) only [push_cast, ↓reduceIte, reduceCtorEq, ν1, ν2, ν3, ν4, ν5, ζ1, ζ2, ζ3, ζ4, ζ5, d1, d2, hm, dm, hq, dq, Bool.not_true, Bool.not_false, memE, boxE])))
   ((first | refine retA.ret (by rfl) ?_ | refine retA.normal (by rfl) ?_); simp (disch := omega) only [push_cast, ↓reduceIte, reduceCtorEq, Nat.reduceAdd, Nat.reduceMul, Nat.reduceLeDiff, Nat.reduceLT, Nat.reduceSub, Int.reduceNe, Int.reduceEq, Int.reduceLE, Int.reduceLT, Int.reduceToNat])
   exact ⟨Fr.push M _, by rw [decide_eq_false]; exact fun h => c4.2 (h.2.2.2.2.2.2.2.2.2 c4.1)⟩
 have hq : (a.hasPref = true ∧ decide ((0 : Int) = 0) = true) ∨ (a.hasPref = false ∧ decide (a.pref = 0) = true) := by
  cases h : a.hasPref with
  | true => exact .inl ⟨rfl, rfl⟩
  | false => exact .inr ⟨rfl, decide_eq_true (by by_cases h0 : a.pref = 0; exact h0; exact absurd ⟨h, h0⟩ c4)⟩
 have hvr : rightP a ↔ validP a.path a.comms a.origin := by
  constructor
  ·exact fun h => ⟨h.1, h.2.1, h.2.2.1, h.2.2.2.1, h.2.2.2.2.1, h.2.2.2.2.2.1⟩
  ·exact fun h => ⟨h.1, h.2.1, h.2.2.1, h.2.2.2.1, h.2.2.2.2.1, h.2.2.2.2.2, c1, by omega, fun e => by by_cases h0 : a.med = 0; exact h0; exact absurd ⟨e, h0⟩ c3, fun e => by by_cases h0 : a.pref = 0; exact h0; exact absurd ⟨e, h0⟩ c4⟩
 have hdv : decide (rightP a) = decide (validP a.path a.comms a.origin) := by simp [hvr]
 rw [hdv]
 rcases hm with ⟨hm, dm⟩ | ⟨hm, dm⟩ <;> rcases hq with ⟨hq, dq⟩ | ⟨hq, dq⟩
 all_goals
  (repeat (first | refine st ?_ | refine σa ?_ | (refine σb ?_; simp (disch := omega) only [push_cast, ↓reduceIte, reduceCtorEq, ν1, ν2, ν3, ν4, ν5, ζ1, ζ2, ζ3, ζ4, ζ5, d1, d2, hm, dm, hq, dq, Bool.not_true, Bool.not_false, hcp, hcc, buildE, memE, boxE])))
  refine (valid_spec p c a.path a.comms a.origin _ (hp.keep (Fr.push M _) (by simp)) (hc.keep (Fr.push M _) (by simp)) h1 h2).mono ?_
  rintro r M2 ⟨hF2, rfl⟩
  (repeat (first | refine st ?_ | refine σa ?_ | (refine σb ?_; simp (disch := omega) only [push_cast, ↓reduceIte, reduceCtorEq, ν1, ν2, ν3, ν4, ν5, ζ1, ζ2, ζ3, ζ4, ζ5])))
  ((first | refine retA.ret (by rfl) ?_ | refine retA.normal (by rfl) ?_); simp (disch := omega) only [push_cast, ↓reduceIte, reduceCtorEq, Nat.reduceAdd, Nat.reduceMul, Nat.reduceLeDiff, Nat.reduceLT, Nat.reduceSub, Int.reduceNe, Int.reduceEq, Int.reduceLE, Int.reduceLT, Int.reduceToNat])
  exact (Fr.push M _).tr hF2
theorem wput_spec (s lo : Nat) (w : Value) (out : List Int) (k : Int) (v : Value) (ys : List Int) (M : Mem) (hs : At M s (.box [w])) (hw : Own M w 1 (ints .u8 out)) (hsw : s ∉ blkOf w) (hlo : s ≥ lo ∧ ∀ b ∈ blkOf w, b ≥ lo) (hlM : lo ≤ M.length) (hv : Sl M v 1 (ints .u8 ys)) (hsv : ∀ b ∈ blkOf v, b ≠ s ∧ b ∉ blkOf w) (hl : ys.length ≤ 65535) (ho : out.length ≤ 1000000) (hk : flagsP k = 64 ∨ flagsP k = 128 ∨ flagsP k = 192) :
  CallA Try.prog 131 [.pointer (some ⟨s, 0, none⟩), .int .u8 k, v] M fun r M' => ∃ w', At M' s (.box [w']) ∧ Own M' w' 1 (ints .u8 (out ++ oneP (flagsP k) k ys)) ∧ (∀ b ∈ blkOf w', M.length ≤ b) ∧ Fr M M' (s :: blkOf w) := by
 have hsv' := hv.isSl
 have hn := hv.lnI
 have hslt := hs.lt
 (refine CallA.of_body Try.func131 rfl (by rfl) ?_; simp only [Try.ntmps131, List.length_cons, List.length_nil, List.replicate, List.cons_append, List.nil_append, Nat.reduceSub, Nat.reduceAdd])
 (repeat (first | refine st ?_ | refine σa ?_ | (refine σb ?_; simp (disch := omega) only [push_cast, ↓reduceIte, reduceCtorEq, ν1, ν2, ν3, ν4, ν5, ζ1, ζ2, ζ3, ζ4, ζ5])))
 refine (flags_spec k M).mono ?_
 rintro r M1 ⟨rfl, rfl⟩
 generalize hfl : flagsP k = fl at *
 (repeat (first | refine st ?_ | refine σa ?_ | (refine σb ?_; simp (disch := omega) only [push_cast, ↓reduceIte, reduceCtorEq, ν1, ν2, ν3, ν4, ν5, ζ1, ζ2, ζ3, ζ4, ζ5, hsv', hn])))
 obtain ⟨pre, hpre⟩ : ∃ pre : List Int, pre = if ys.length > 255 then [fl + 16, k, (ys.length : Int) / 256] else [fl, k] := ⟨_, rfl⟩
 have hprel : pre.length ≤ 3 := by rw [hpre]; split <;> simp
 have hvlt := hv.blks
 have hwlt := hw.sl.blks
 refine AW.joinF [12, 13, 14, 15, 16, 17, 18, 19, 20, 21, 22, 23, 24, 25, 26, 27, 28, 29, 30, 31, 32, 33, 34, 35, 36, 37, 38] (fun g M' => ∃ w', At M' s (.box [w']) ∧ Own M' w' 1 (ints .u8 (out ++ pre)) ∧ (∀ b ∈ blkOf w', M1.length ≤ b) ∧ Fr M1 M' (s :: blkOf w)) ?_ ?_
 ·have key : ∀ (n : Nat) (M2 : Mem) (v1 : Value), New (M1 ++ [.row true 1 (ints .u8 pre)]) M2 v1 1 (ints .u8 (out ++ pre)) → Fr (M1 ++ [.row true 1 (ints .u8 pre)]) M2 (blkOf w) → At M2 s (.box [w]) ∧ Value.oneCell' v1 = true ∧ At (M2.set s (.box [v1])) s (.box [v1]) ∧ Own (M2.set s (.box [v1])) v1 1 (ints .u8 (out ++ pre)) ∧ (∀ b ∈ blkOf v1, M1.length ≤ b) ∧ Fr M1 (M2.set s (.box [v1])) (s :: blkOf w) := by
   intro n M2 v1 hN2 hF2
   have hs2 := (hs.keep (Fr.push M1 (.row true 1 (ints .u8 pre))) (by simp)).keep hF2 hsw
   have hb : ∀ b ∈ blkOf v1, M1.length < b := fun b hb => by have := hN2.blk b hb; simp at this; omega
   refine ⟨hs2, isSl_one hN2.1.sl.isSl, hs2.set _, hN2.1.keep (Fr.set M2 s _) (fun b h hx => by have := hb b h; simp at hx; omega), fun b h => Nat.le_of_lt (hb b h), ?_⟩
   refine ((((Fr.push M1 _).trans hF2).trans (Fr.set M2 s _))).cut ?_
   intro x hx _
   simp at hx ⊢
   rcases hx with hx | hx
   ·exact .inr hx
   ·exact .inl hx
  by_cases c : ys.length > 255
  ·have d : decide ((ys.length : Int) > 255) = true := decide_eq_true (by omega)
   have o16 := or16 (x := fl) (by omega)
   have q1 : ((ys.length : Int) / 256) % 256 = (ys.length : Int) / 256 := by omega
   rw [if_pos c] at hpre
   (repeat (first | refine st ?_ | refine σa ?_ | (refine σb ?_; simp (disch := omega) only [push_cast, ↓reduceIte, reduceCtorEq, ν1, ν2, ν3, ν4, ν5, ζ1, ζ2, ζ3, ζ4, ζ5, hsv', hn, d, hs.ld, hs.get, o16, e8i, fdiv_in, wm_u8, q1])))
   have r1 := New.lit M1 3 pre (by rw [hpre]; rfl) (by decide)
   rw [← show ints .u8 pre = [.int .u8 (fl + 16), .int .u8 k, .int .u8 ((ys.length : Int) / 256)] by rw [hpre]; rfl]
   refine appK.ints (P := Try.prog) (e := 5) (bt := 1) (z := .int .u8 0) (by kernel_rfl) (by kernel_rfl) (by kernel_rfl) (by kernel_rfl) (by decide) (hw.keep (Fr.push M1 _) (by simp)) r1.sl (by omega) ?_
   intro v1 M2 hN2 hF2
   obtain ⟨k1, k2, k3⟩ := key 0 M2 v1 hN2 hF2
   simp only [Value.oneCell'] at k2
   have hcl := isSl_cl hN2.1.sl.isSl
   (repeat (first | refine st ?_ | refine σa ?_ | (refine σb ?_; simp (disch := omega) only [push_cast, ↓reduceIte, reduceCtorEq, ν1, ν2, ν3, ν4, ν5, ζ1, ζ2, ζ3, ζ4, ζ5, k1.get, k2, hcl, buildE, boxE])))
   exact ⟨rfl, v1, k3⟩
  ·have d : decide ((ys.length : Int) > 255) = false := decide_eq_false (by omega)
   rw [if_neg c] at hpre
   (repeat (first | refine st ?_ | refine σa ?_ | (refine σb ?_; simp (disch := omega) only [push_cast, ↓reduceIte, reduceCtorEq, ν1, ν2, ν3, ν4, ν5, ζ1, ζ2, ζ3, ζ4, ζ5, hsv', hn, d, hs.ld, hs.get])))
   have r1 := New.lit M1 2 pre (by rw [hpre]; rfl) (by decide)
   rw [← show ints .u8 pre = [.int .u8 fl, .int .u8 k] by rw [hpre]; rfl]
   refine appK.ints (P := Try.prog) (e := 5) (bt := 1) (z := .int .u8 0) (by kernel_rfl) (by kernel_rfl) (by kernel_rfl) (by kernel_rfl) (by decide) (hw.keep (Fr.push M1 _) (by simp)) r1.sl (by omega) ?_
   intro v1 M2 hN2 hF2
   obtain ⟨k1, k2, k3⟩ := key 0 M2 v1 hN2 hF2
   simp only [Value.oneCell'] at k2
   have hcl := isSl_cl hN2.1.sl.isSl
   (repeat (first | refine st ?_ | refine σa ?_ | (refine σb ?_; simp (disch := omega) only [push_cast, ↓reduceIte, reduceCtorEq, ν1, ν2, ν3, ν4, ν5, ζ1, ζ2, ζ3, ζ4, ζ5, k1.get, k2, hcl, buildE, boxE])))
   exact ⟨rfl, v1, k3⟩
 ·rintro g M2 ⟨w1, a1, a2, a3, a4⟩
  have hv2 := hv.keep a4 (fun b hb hx => by rcases List.mem_cons.1 hx with e | hx; exact (hsv b hb).1 e; exact (hsv b hb).2 hx)
  have hM := a4.1
  (repeat (first | refine st ?_ | refine σa ?_ | (refine σb ?_; simp (disch := omega) only [push_cast, ↓reduceIte, reduceCtorEq, ν1, ν2, ν3, ν4, ν5, ζ1, ζ2, ζ3, ζ4, ζ5, hsv', hn, a1.ld, wm_u8])))
  have r1 := New.lit M2 1 [(ys.length : Int) % 256] rfl (by decide)
  have hsw1 : s ∉ blkOf w1 := fun h => by have := a3 s h; omega
  refine appK.ints (P := Try.prog) (e := 5) (bt := 1) (z := .int .u8 0) (by kernel_rfl) (by kernel_rfl) (by kernel_rfl) (by kernel_rfl) (by decide) (a2.keep (Fr.push M2 _) (by simp)) r1.sl (by simp; omega) ?_
  intro w2 M3 hN3 hF3
  have a13 := (a1.keep (Fr.push M2 _) (by simp)).keep hF3 hsw1
  have hv3 := (hv2.keep (Fr.push M2 (.row true 1 (ints .u8 [(ys.length : Int) % 256]))) (by simp)).keep hF3 (fun b hb hx => by have := a3 b hx; have := hvlt b hb; omega)
  have hb2 : ∀ b ∈ blkOf w2, M2.length < b := fun b hb => by have := hN3.blk b hb; simp at this; omega
  (repeat (first | refine st ?_ | refine σa ?_ | (refine σb ?_; simp (disch := omega) only [push_cast, ↓reduceIte, reduceCtorEq, ν1, ν2, ν3, ν4, ν5, ζ1, ζ2, ζ3, ζ4, ζ5])))
  refine appK.ints (P := Try.prog) (e := 5) (bt := 1) (z := .int .u8 0) (by kernel_rfl) (by kernel_rfl) (by kernel_rfl) (by kernel_rfl) (by decide) hN3.1 hv3 (by simp; omega) ?_
  intro w3 M4 hN4 hF4
  have hM3 := hF3.1
  have hM4 := hF4.1
  simp at hM3
  have a14 := a13.keep hF4 (fun h => by have := hb2 s h; omega)
  have hb3 : ∀ b ∈ blkOf w3, M2.length < b := fun b hb => by have := hN4.blk b hb; omega
  have one3 := isSl_one hN4.1.sl.isSl
  simp only [Value.oneCell'] at one3
  have hcl := isSl_cl hN4.1.sl.isSl
  (repeat (first | refine st ?_ | refine σa ?_ | (refine σb ?_; simp (disch := omega) only [push_cast, ↓reduceIte, reduceCtorEq, ν1, ν2, ν3, ν4, ν5, ζ1, ζ2, ζ3, ζ4, ζ5, a14.get, one3, hcl, buildE, boxE])))
  ((first | refine retA.ret (by rfl) ?_ | refine retA.normal (by rfl) ?_); simp (disch := omega) only [push_cast, ↓reduceIte, reduceCtorEq, Nat.reduceAdd, Nat.reduceMul, Nat.reduceLeDiff, Nat.reduceLT, Nat.reduceSub, Int.reduceNe, Int.reduceEq, Int.reduceLE, Int.reduceLT, Int.reduceToNat])
  refine ⟨w3, a14.set _, ?_, fun b hb => by have := hb3 b hb; omega, ?_⟩
  ·have e : out ++ oneP fl k ys = out ++ pre ++ [(ys.length : Int) % 256] ++ ys := by
    rw [hpre]
    unfold oneP
    split
    ·simp
    ·have : (ys.length : Int) % 256 = ys.length := by omega
     rw [this]; simp
   rw [e]
   exact hN4.1.keep (Fr.set M4 s _) (fun b h hx => by have := hb3 b h; simp at hx; omega)
  ·refine (((((a4.trans (Fr.push M2 _)).trans hF3).trans hF4)).trans (Fr.set M4 s _)).cut ?_
   intro x hx hlt
   simp at hx ⊢
   rcases hx with hx | hx | hx | hx | hx
   ·exact .inl hx
   ·exact .inr hx
   ·have := a3 x hx; omega
   ·have := hb2 x hx; omega
   ·exact .inl hx
structure WrA (M : Mem) (p : Nat) (v : Value) (bs : List Int) : Prop where
 at' : At M p (.box [v])
 own : Own M v 1 (ints .u8 bs)
 no : p ∉ blkOf v
def WrS (M : Mem) (p : Nat) (v : Value) (bs : List Int) (M' : Mem) : Prop := Fr M M' (p :: blkOf v) ∧ ∃ v', WrA M' p v' bs ∧ New M M' v' 1 (ints .u8 bs)
theorem woct_spec (p : Nat) (v : Value) (bs : List Int) (x : Value) (l : List Int) (M : Mem) (h : WrA M p v bs) (hx : Sl M x 1 (ints .u8 l)) (hl : bs.length + l.length ≤ 1000000) :
  CallA Try.prog 64 [.pointer (some ⟨p, 0, none⟩), x] M fun r M' => r = .tuple ⟨[]⟩ ∧ WrS M p v (bs ++ l) M' := by
 obtain ⟨hat, hown, hno⟩ := h
 (refine CallA.of_body Try.func64 rfl (by rfl) ?_; simp only [Try.ntmps64, List.length_cons, List.length_nil, List.replicate, List.cons_append, List.nil_append, Nat.reduceSub, Nat.reduceAdd])
 (repeat (first | refine st ?_ | refine σa ?_ | (refine σb ?_; simp (disch := omega) only [push_cast, ↓reduceIte, reduceCtorEq, ν1, ν2, ν3, ν4, ν5, ζ1, ζ2, ζ3, ζ4, ζ5, hat.ld])))
 refine appK.ints (P := Try.prog) (e := 5) (bt := 1) (z := .int .u8 0) (by kernel_rfl) (by kernel_rfl) (by kernel_rfl) (by kernel_rfl) (by decide) hown hx (by omega) ?_
 intro v' M2 hN hF
 have hat2 := hat.keep hF hno
 have c2 := isSl_cl hN.1.sl.isSl
 have o2 := isSl_one hN.1.sl.isSl
 have hd : [v].drop 1 = [] := rfl
 simp only [Value.oneCell'] at o2
 (repeat (first | refine st ?_ | refine σa ?_ | (refine σb ?_; simp (disch := omega) only [push_cast, ↓reduceIte, reduceCtorEq, ν1, ν2, ν3, ν4, ν5, ζ1, ζ2, ζ3, ζ4, ζ5, hat2.get, hat2.ld, c2, o2, hd, List.append_nil, boxE])))
 ((first | refine retA.ret (by rfl) ?_ | refine retA.normal (by rfl) ?_); simp (disch := omega) only [push_cast, ↓reduceIte, reduceCtorEq, Nat.reduceAdd, Nat.reduceMul, Nat.reduceLeDiff, Nat.reduceLT, Nat.reduceSub, Int.reduceNe, Int.reduceEq, Int.reduceLE, Int.reduceLT, Int.reduceToNat])
 have hpl := hat.lt
 have hpb : p ∉ blkOf v' := fun h => by have := hN.blk p h; omega
 have f2 := Fr.set M2 p (.box [v'])
 have hq : ∀ b ∈ blkOf v', b ∉ [p] := fun b h h' => hpb (by simp at h'; rw [← h']; exact h)
 have N2 := hN.keep f2 hq
 exact ⟨(hF.trans f2).cut (fun b hb _ => by simp at hb; simp; rcases hb with h | h; exact .inr h; exact .inl h), v', ⟨hat2.set _, N2.1, hpb⟩, N2⟩
theorem WrA.keep {M M' : Mem} {p : Nat} {v : Value} {bs : List Int} {X : List Nat} (h : WrA M p v bs) (f : Fr M M' X) (hx : ∀ b ∈ p :: blkOf v, b ∉ X) : WrA M' p v bs :=
 ⟨h.at'.keep f (hx p (by simp)), h.own.keep f (fun b hb => hx b (by simp [hb])), h.no⟩
theorem WrS.pre {M M1 M' : Mem} {p : Nat} {v : Value} {bs : List Int} (f : Fr M M1 []) (h : WrS M1 p v bs M') : WrS M p v bs M' := by
 obtain ⟨g, v', a, n⟩ := h
 exact ⟨(f.trans g).cut (fun b hb _ => by simpa using hb), v', a, n.after f⟩
theorem WrS.tr {M M1 M2 : Mem} {p : Nat} {v v1 : Value} {bs bs' : List Int} (f : Fr M M1 (p :: blkOf v)) (hn : New M M1 v1 1 (ints .u8 bs)) (h : WrS M1 p v1 bs' M2) : WrS M p v bs' M2 := by
 obtain ⟨g, v', a, n⟩ := h
 refine ⟨(f.trans g).cut (fun b hb hlt => ?_), v', a, n.after f⟩
 rcases List.mem_append.1 hb with hb | hb
 ·exact hb
 ·rcases List.mem_cons.1 hb with hb | hb
  ·rw [hb]; simp
  ·have := hn.blk b hb; omega
theorem wtwo_spec (p : Nat) (v : Value) (bs : List Int) (n : Int) (M : Mem) (h : WrA M p v bs) (hn : 0 ≤ n ∧ n ≤ 65535) (hl : bs.length ≤ 900000) :
  CallA Try.prog 63 [.pointer (some ⟨p, 0, none⟩), .int .u16 n] M fun r M' => r = .tuple ⟨[]⟩ ∧ WrS M p v (bs ++ twoB n) M' := by
 have h1 := hn.1
 have h2 := hn.2
 have q8 : n / 256 % 256 = n / 256 := by omega
 have e8u : (2 : Int) ^ min 8 IntKind.u16.bits = 256 := by decide
 (refine CallA.of_body Try.func63 rfl (by rfl) ?_; simp only [Try.ntmps63, List.length_cons, List.length_nil, List.replicate, List.cons_append, List.nil_append, Nat.reduceSub, Nat.reduceAdd])
 (repeat (first | refine st ?_ | refine σa ?_ | (refine σb ?_; simp (disch := omega) only [push_cast, ↓reduceIte, reduceCtorEq, ν1, ν2, ν3, ν4, ν5, ζ1, ζ2, ζ3, ζ4, ζ5, fdiv_in, e8u, wm_u8, q8, buildE, memE, boxE])))
 have P := Fr.push M (.row true 1 [.int .u8 (n / 256), .int .u8 (n % 256)])
 have r := New.row M (s := 1) (n := 2) (cs := ints .u8 [n / 256, n % 256]) (by omega) rfl rfl (by decide)
 refine (woct_spec p v bs _ [n / 256, n % 256] _ (h.keep P (by simp)) r.sl (by simp; omega)).mono ?_
 rintro r M2 ⟨rfl, hW⟩
 (repeat (first | refine st ?_ | refine σa ?_ | (refine σb ?_; simp (disch := omega) only [push_cast, ↓reduceIte, reduceCtorEq, ν1, ν2, ν3, ν4, ν5, ζ1, ζ2, ζ3, ζ4, ζ5])))
 ((first | refine retA.ret (by rfl) ?_ | refine retA.normal (by rfl) ?_); simp (disch := omega) only [push_cast, ↓reduceIte, reduceCtorEq, Nat.reduceAdd, Nat.reduceMul, Nat.reduceLeDiff, Nat.reduceLT, Nat.reduceSub, Int.reduceNe, Int.reduceEq, Int.reduceLE, Int.reduceLT, Int.reduceToNat])
 have e : twoB n = [n / 256, n % 256] := by unfold twoB; rw [q8]
 rw [e]
 exact hW.pre P
theorem wfour_spec (p : Nat) (v : Value) (bs : List Int) (n : Int) (M : Mem) (h : WrA M p v bs) (hn : u32 n) (hl : bs.length ≤ 900000) :
  CallA Try.prog 102 [.pointer (some ⟨p, 0, none⟩), .int .u32 n] M fun r M' => r = .tuple ⟨[]⟩ ∧ WrS M p v (bs ++ addrBytes n) M' := by
 have h1 := hn.1
 have h2 := hn.2
 have q24 : n / 16777216 % 256 = n / 16777216 := by omega
 (refine CallA.of_body Try.func102 rfl (by rfl) ?_; simp only [Try.ntmps102, List.length_cons, List.length_nil, List.replicate, List.cons_append, List.nil_append, Nat.reduceSub, Nat.reduceAdd])
 (repeat (first | refine st ?_ | refine σa ?_ | (refine σb ?_; simp (disch := omega) only [push_cast, ↓reduceIte, reduceCtorEq, ν1, ν2, ν3, ν4, ν5, ζ1, ζ2, ζ3, ζ4, ζ5, fdiv_in, e24, e16, e8, wm_u8, q24, buildE, memE, boxE])))
 have P := Fr.push M (.row true 1 [.int .u8 (n / 16777216), .int .u8 (n / 65536 % 256), .int .u8 (n / 256 % 256), .int .u8 (n % 256)])
 have r := New.row M (s := 1) (n := 4) (cs := ints .u8 [n / 16777216, n / 65536 % 256, n / 256 % 256, n % 256]) (by omega) rfl rfl (by decide)
 refine (woct_spec p v bs _ [n / 16777216, n / 65536 % 256, n / 256 % 256, n % 256] _ (h.keep P (by simp)) r.sl (by simp; omega)).mono ?_
 rintro r M2 ⟨rfl, hW⟩
 (repeat (first | refine st ?_ | refine σa ?_ | (refine σb ?_; simp (disch := omega) only [push_cast, ↓reduceIte, reduceCtorEq, ν1, ν2, ν3, ν4, ν5, ζ1, ζ2, ζ3, ζ4, ζ5])))
 ((first | refine retA.ret (by rfl) ?_ | refine retA.normal (by rfl) ?_); simp (disch := omega) only [push_cast, ↓reduceIte, reduceCtorEq, Nat.reduceAdd, Nat.reduceMul, Nat.reduceLeDiff, Nat.reduceLT, Nat.reduceSub, Int.reduceNe, Int.reduceEq, Int.reduceLE, Int.reduceLT, Int.reduceToNat])
 exact hW.pre P
theorem gmask_spec (p : PX) (M : Mem) (h0 : 0 ≤ p.1 ∧ p.1 ≤ 4294967295) : CallA Try.prog 46 [.agg ⟨[.int .u32 p.1, .int .i64 p.2]⟩] M fun r M' => Fr M M' [] ∧ r = .agg ⟨[.int .u32 (maskP p).1, .int .i64 (maskP p).2]⟩ := by
 obtain ⟨a, n⟩ := p
 simp only at h0 ⊢
 obtain ⟨k, hk⟩ : ∃ k, k = maskN n := ⟨_, rfl⟩
 have hk32 : k ≤ 32 := by rw [hk]; exact maskN_le n
 have e : maskP (a, n) = (a / 2 ^ (32 - k) * 2 ^ (32 - k), (k : Int)) := by rw [hk]; rfl
 have hkv : (if (if 32 < n then (32 : Int) else n) > 0 then (if 32 < n then (32 : Int) else n) else 0) = k := by
  rw [hk]; unfold maskN
  repeat' split
  all_goals omega
 rw [e]
 obtain ⟨j, hj⟩ : ∃ j, j = 32 - k := ⟨_, rfl⟩
 rw [← hj]
 have hjk : (32 : Int) - (k : Int) = (j : Int) := by omega
 have hm : min j IntKind.u64.bits = j := Nat.min_eq_left (by show j ≤ 64; omega)
 have hp := pow_pos32 j
 have hfd : a.fdiv (2 ^ j) = a / 2 ^ j := fdiv_in (by omega)
 have hle := Int.ediv_mul_le a (show (2 : Int) ^ j ≠ 0 by omega)
 have hge : 0 ≤ a / 2 ^ j * 2 ^ j := Int.mul_nonneg (Int.ediv_nonneg (by omega) (by omega)) (by omega)
 have w1 : IntKind.u64.wrap a = a := w_u64 (by omega) (by omega)
 have w2 : IntKind.u64.wrap (a / 2 ^ j * 2 ^ j) = a / 2 ^ j * 2 ^ j := w_u64 hge (by omega)
 have w3 : IntKind.u32.wrap (a / 2 ^ j * 2 ^ j) = a / 2 ^ j * 2 ^ j := w_u32 hge (by omega)
 have w4 : IntKind.i64.wrap (j : Int) = j := w_i64 (by omega) (by omega)
 (refine CallA.of_body Try.func46 rfl (by rfl) ?_; simp only [Try.ntmps46, List.length_cons, List.length_nil, List.replicate, List.cons_append, List.nil_append, Nat.reduceSub, Nat.reduceAdd])
 (repeat (first | refine st ?_ | refine σa ?_ | (refine σb ?_; simp (disch := omega) only [push_cast, ↓reduceIte, reduceCtorEq, ν1, ν2, ν3, ν4, ν5, ζ1, ζ2, ζ3, ζ4, ζ5, hkv, hjk, w1, w2, w3, w4, hfd, hm, Int.toNat_natCast, buildE, memE, boxE])))
 ((first | refine retA.ret (by rfl) ?_ | refine retA.normal (by rfl) ?_); simp (disch := omega) only [push_cast, ↓reduceIte, reduceCtorEq, Nat.reduceAdd, Nat.reduceMul, Nat.reduceLeDiff, Nat.reduceLT, Nat.reduceSub, Int.reduceNe, Int.reduceEq, Int.reduceLE, Int.reduceLT, Int.reduceToNat, memE, boxE])
 exact Fr.push2 _ _ _
end Go.Proofs.Ytbdejnnbpdgjlaa.Ax
namespace Go.Proofs.Ytbdejnnbpdgjlaa.Ax
open Go Go.RowKit
set_option linter.unusedVariables false
set_option linter.unusedSimpArgs false
set_option maxRecDepth 100000
set_option maxHeartbeats 20000000
def isArT (P : Program) (ty : TypeId) : Bool := match P.underlying ty with
 | some (.array _ _) => true
 | _ => false
def arLen (P : Program) (ty : TypeId) : Option Nat := match P.underlying ty with
 | some (.array n e) => if tsz P e = some 1 then some n else none
 | _ => none
theorem arLen_inv {P : Program} {ty : TypeId} {n : Nat} (h : arLen P ty = some n) : ∃ e, P.underlying ty = some (.array n e) ∧ tsz P e = some 1 := by
 unfold arLen at h
 split at h
 ·rename_i m e hu
  split at h
  ·cases h; exact ⟨e, hu, by assumption⟩
  ·cases h
 ·cases h
def LP.cut (b j n : Nat) : LP := ⟨fun M => ∃ cs, M[b]? = some (.box cs) ∧ j + n ≤ cs.length, fun M M' ⟨cs, h1, h2⟩ f => ⟨cs, by rw [f.2 b (List.getElem?_eq_some_iff.1 h1).1 (by simp)]; exact h1, h2⟩⟩
section
variable {P : Program} {ops : Array Oper} {todo done : List Nat} {Ls : List (Nat × LP)} {rest : List Oper} {K : List Value → Mem → Prop} {t : List Value} {M : Mem}
variable {i : Nat} {dst : Option Tmp} {type : TypeId} {pos : String} {after : Array Edge}
theorem AL.cutW {ty : TypeId} {x : Operand} {lo hi : Option Operand} (ht : isArT P ty = true) (hok : okOpds ⟨dst, .slice ty x lo hi none, type, pos, after, none⟩ = true)
  (h : ptrK (ev t x) fun b j => ∃ n, arLen P ty = some n ∧ ∃ cs, M[b]? = some (.box cs) ∧ ∃ l, natOf (lo.map (ev t)) 0 = some l ∧ ∃ r, natOf (hi.map (ev t)) n = some r ∧ l ≤ r ∧ r ≤ n ∧ j + n ≤ cs.length ∧ AL P ops rest K (putT t dst (.slice (some ⟨b, j + l, none⟩) (r - l) (n - l))) M) : AL P ops (⟨dst, .slice ty x lo hi none, type, pos, after, none⟩ :: rest) K t M := by
 obtain ⟨b, j, hx, n, hn, cs, hM, l, hl, r, hr, h1, h2, h3, hc⟩ := ptrK_elim h
 obtain ⟨e, hu, hs⟩ := arLen_inv hn
 exact AL.op hok rfl (AOp.load (load_cut rfl hu hs hx hl hr ⟨h1, h2⟩) ⟨cs, hM, h3⟩ hc)
theorem AH.cutW {ty : TypeId} {x : Operand} {lo hi : Option Operand} (ht : isArT P ty = true) (hok : okOpds ⟨dst, .slice ty x lo hi none, type, pos, after, none⟩ = true)
  (h : ptrK (ev t x) fun b j => ∃ n, arLen P ty = some n ∧ ∃ cs, M[b]? = some (.box cs) ∧ ∃ l, natOf (lo.map (ev t)) 0 = some l ∧ ∃ r, natOf (hi.map (ev t)) n = some r ∧ l ≤ r ∧ r ≤ n ∧ j + n ≤ cs.length ∧ ADL P ops todo (i :: done) (Ls ++ [(i, LP.cut b j n)]) K (putT t dst (.slice (some ⟨b, j + l, none⟩) (r - l) (n - l))) M) : AH P ops dst (.slice ty x lo hi none) type pos after none i todo done Ls K t M := fun ho => by
 obtain ⟨b, j, hx, n, hn, cs, hM, l, hl, r, hr, h1, h2, h3, hc⟩ := ptrK_elim h
 obtain ⟨e, hu, hs⟩ := arLen_inv hn
 exact ADL.lp (LP.cut b j n) ho rfl hok rfl (load_cut rfl hu hs hx hl hr ⟨h1, h2⟩) ⟨cs, hM, h3⟩ hc
theorem AH.apC {ty ty' : TypeId} {x y : Operand} {Ls0 : List (Nat × LP)} {j b j0 n : Nat} (hok : okOpd x = true) (hok' : okOpd y = true) (hL : (Ls0.map Prod.fst).all (fun x => bef ops x i) = true)
  (h : appK P ty ty' (ev t x) (ev t y) M fun v' M' => (∃ cs, M'[b]? = some (.box cs) ∧ j0 + n ≤ cs.length) ∧ ADL P ops todo (i :: done) [(j, LP.cut b j0 n)] K (putT t dst v') M') : AH P ops dst (.call { callee := .builtin .append, args := ⟨[x, y]⟩, argTypes := ⟨[ty, ty']⟩ }) type pos after none i todo done (Ls0 ++ [(j, LP.cut b j0 n)]) K t M := fun ho => by
 refine ADL.ef ho rfl (by simp [okOpds, calmOp, Op.operands, Call.operands, hok, hok']) rfl ((appK_sound rfl h).mono fun v M' h => ?_)
 have hf : ∀ p ∈ (Ls0 ++ [(j, LP.cut b j0 n)]).filter (fun p => !bef ops p.1 i), p = (j, LP.cut b j0 n) := by
  intro p hp
  obtain ⟨h1, h2⟩ := List.mem_filter.1 hp
  rcases List.mem_append.1 h1 with h1 | h1
  ·have := List.all_eq_true.1 hL p.1 (List.mem_map_of_mem h1)
   rw [this] at h2; cases h2
  ·exact List.mem_singleton.1 h1
 refine ⟨fun p hp => by rw [hf p hp]; exact h.1, fun h1 h2 h3 => ?_⟩
 refine AD.drop (h.2 h1 h2 (fun p hp => by rw [List.mem_singleton.1 hp]; exact h.1)) (fun p hp => ?_) (fun p hp => ?_)
 ·obtain ⟨q, hq, rfl⟩ := List.mem_map.1 hp
  rw [hf q hq]; simp
 ·obtain ⟨q, hq, rfl⟩ := List.mem_map.1 hp
  rw [List.mem_singleton.1 hq]; exact h.1
end
theorem Sl.ofBox {M : Mem} {b j r n : Nat} {cs : List Value} (hM : M[b]? = some (.box cs)) (h1 : j + n ≤ cs.length) (h2 : r ≤ n) (h3 : n < capLow) (ho : cs.all Value.oneCell' = true) : Sl M (.slice (some ⟨b, j, none⟩) r n) 1 ((cs.drop j).take r) := by
 have hb := (List.getElem?_eq_some_iff.1 hM).1
 have hl : ((cs.drop j).take r).length = r := by rw [List.length_take, List.length_drop]; omega
 refine ⟨.inr ⟨b, j, r, n, rfl, hb, by unfold capLb; rw [if_pos h3]; exact h2⟩, by rw [hl]; simp [sln], ⟨by omega, fun a n' c B hv _ hB => ?_⟩, ?_, fun _ => ?_⟩
 ·cases hv
  rw [hM] at hB
  cases hB; rfl
 ·rw [List.all_eq_true] at ho ⊢
  intro x hx
  exact ho x (List.mem_of_mem_drop (List.mem_of_mem_take hx))
 ·rw [hl]
  show Ax.cellsM M b j r = _
  unfold Ax.cellsM
  rw [hM, Option.bind_some]
  show (if j + r ≤ cs.length then _ else none) = _
  rw [if_pos (by omega)]; rfl
end Go.Proofs.Ytbdejnnbpdgjlaa.Ax
namespace Go.Proofs.Ytbdejnnbpdgjlaa.Ax
open Go Go.RowKit
open Nat renaming reduceAdd → ν1, reduceMul → ν2, reduceLeDiff → ν3, reduceLT → ν4, reduceSub → ν5
open Int renaming reduceNe → ζ1, reduceEq → ζ2, reduceLE → ζ3, reduceLT → ζ4, reduceToNat → ζ5
set_option linter.unusedVariables false
set_option linter.unusedSimpArgs false
set_option maxRecDepth 100000
set_option maxHeartbeats 20000000
attribute [local irreducible] thenA blockA scopeA retA AL AW AD ADL AH clrK CallA apure aload bload appK ptrK fnK ares szOk planOk okOps
theorem d130_Nl2 {g n : Prop} (k : n) (h : n → g := by first | exact AW.dr (id := 1) (by rfl) [0, 1, 2, 3] (by kernel_rfl) (by kernel_rfl)) : g := h k
theorem a130_Nl2 {g n : Prop} (k : n) (h : n → g := by first | exact AH.ca (dst := some 5) rfl) : g := h k
theorem px_eq (p q : PX) : aeqV Try.prog 3 32 (.agg ⟨[.int .u32 p.1, .int .i64 p.2]⟩) (.agg ⟨[.int .u32 q.1, .int .i64 q.2]⟩) = some (decide (p = q)) := by
 have h : aeqV Try.prog 3 32 (.agg ⟨[.int .u32 p.1, .int .i64 p.2]⟩) (.agg ⟨[.int .u32 q.1, .int .i64 q.2]⟩) = if (p.1 == q.1) = true then (if (p.2 == q.2) = true then some true else some false) else some false := by kernel_rfl
 rw [h]
 obtain ⟨a, n⟩ := p
 obtain ⟨b, m⟩ := q
 by_cases h1 : a = b <;> by_cases h2 : n = m <;> simp [h1, h2]
theorem pxs_get {l : List PX} {i : Nat} (h : i < l.length) : (pxs l)[i * 2]? = some (.int .u32 (l.getD i (0, 0)).1) ∧ (pxs l)[i * 2 + 1]? = some (.int .i64 (l.getD i (0, 0)).2) := by
 induction l generalizing i with
 | nil => simp at h
 | cons p l ih =>
  cases i with
  | zero => exact ⟨rfl, rfl⟩
  | succ i =>
   have := ih (i := i) (by simpa using h)
   have e : pxs (p :: l) = .int .u32 p.1 :: .int .i64 p.2 :: pxs l := rfl
   rw [e, show (i + 1) * 2 = i * 2 + 1 + 1 by omega, show i * 2 + 1 + 1 + 1 = (i * 2 + 1) + 1 + 1 by omega]
   simpa using this
theorem Sl.lnX {M : Mem} {v : Value} {l : List PX} (h : Sl M v 2 (pxs l)) : sln v = l.length := by have := h.len; rw [pxs_length] at this; omega
theorem Sl.ldX {M : Mem} {v : Value} {l : List PX} (h : Sl M v 2 (pxs l)) {i : Nat} (hi : i < l.length) : aload Try.prog 32 M (sbk v) (sof v + i * 2) = some (.agg ⟨[.int .u32 (l.getD i (0, 0)).1, .int .i64 (l.getD i (0, 0)).2]⟩) := by
 have hc := h.cellsM (j := i * 2) (n := 2) (by omega) (by rw [pxs_length]; omega)
 obtain ⟨g1, g2⟩ := pxs_get hi
 have e : ((pxs l).drop (i * 2)).take 2 = [.int .u32 (l.getD i (0, 0)).1, .int .i64 (l.getD i (0, 0)).2] := by
  apply List.ext_getElem?
  intro j
  rw [List.getElem?_take, List.getElem?_drop]
  match j with
  | 0 => simpa using g1
  | 1 => simpa using g2
  | j + 2 => rw [if_neg (by omega)]; rfl
 rw [e] at hc
 have hu : ∃ fs, Try.prog.underlying 32 = some (.struct fs) := ⟨_, Try.underlying32⟩
 obtain ⟨fs, hu⟩ := hu
 have ht : tsz Try.prog 32 = some 2 := by kernel_rfl
 unfold aload
 rw [hu]
 simp only [ht, Option.bind_some]
 rw [hc]; rfl
theorem nbytes_spec (n : Int) (M : Mem) (h : 0 ≤ n ∧ n ≤ 1000) : CallA Try.prog 120 [.int .i64 n] M fun r M' => M' = M ∧ r = .int .i64 (nbytes n : Nat) := by
 have h1 := h.1
 have h2 := h.2
 (refine CallA.of_body Try.func120 rfl (by rfl) ?_; simp only [Try.ntmps120, List.length_cons, List.length_nil, List.replicate, List.cons_append, List.nil_append, Nat.reduceSub, Nat.reduceAdd])
 (repeat (first | refine st ?_ | refine σa ?_ | (refine σb ?_; simp (disch := omega) only [push_cast, ↓reduceIte, reduceCtorEq, ν1, ν2, ν3, ν4, ν5, ζ1, ζ2, ζ3, ζ4, ζ5, w_i64, tdiv_in])))
 ((first | refine retA.ret (by rfl) ?_ | refine retA.normal (by rfl) ?_); simp (disch := omega) only [push_cast, ↓reduceIte, reduceCtorEq, Nat.reduceAdd, Nat.reduceMul, Nat.reduceLeDiff, Nat.reduceLT, Nat.reduceSub, Int.reduceNe, Int.reduceEq, Int.reduceLE, Int.reduceLT, Int.reduceToNat])
 refine congrArg _ ?_
 unfold nbytes
 omega
theorem size_spec (p : PX) (M : Mem) (h0 : goodX p) : CallA Try.prog 130 [.agg ⟨[.int .u32 p.1, .int .i64 p.2]⟩] M fun r M' => Fr M M' [] ∧ r = .int .i64 (sizeX p : Nat) := by
 (refine CallA.of_body Try.func130 rfl (by rfl) ?_; simp only [Try.ntmps130, List.length_cons, List.length_nil, List.replicate, List.cons_append, List.nil_append, Nat.reduceSub, Nat.reduceAdd])
 (repeat (first | refine st ?_ | refine σa ?_ | refine d130_Nl2 ?_ | ((first | refine a130_Nl2 ?_ | refine σb ?_ | refine σc ?_); simp (disch := omega) only [push_cast, ↓reduceIte, reduceCtorEq, ν1, ν2, ν3, ν4, ν5, ζ1, ζ2, ζ3, ζ4, ζ5, buildE, memE, boxE])))
 refine (gmask_spec p _ h0).mono ?_
 rintro r M2 ⟨hF2, rfl⟩
 refine ⟨hF2, ?_⟩
 have pe := px_eq p (maskP p)
 (repeat (first | refine st ?_ | refine σa ?_ | refine d130_Nl2 ?_ | ((first | refine a130_Nl2 ?_ | refine σb ?_ | refine σc ?_); simp (disch := omega) only [push_cast, ↓reduceIte, reduceCtorEq, ν1, ν2, ν3, ν4, ν5, ζ1, ζ2, ζ3, ζ4, ζ5, pe])))
 have l2 : ∀ ty j, aload Try.prog ty M2 M.length j = bload Try.prog ty [.int .u32 p.1, .int .i64 p.2] j := fun ty j => ((At.push M (.box [.int .u32 p.1, .int .i64 p.2])).keep hF2 (by simp)).ld
 have hFF := (Fr.push M (.box [.int .u32 p.1, .int .i64 p.2])).tr hF2
 by_cases c : p = maskP p
 ·have d : decide (p = maskP p) = true := decide_eq_true c
  have hl := rightX_len (p := p) c
  rw [d]
  (repeat (first | refine st ?_ | refine σa ?_ | refine d130_Nl2 ?_ | ((first | refine a130_Nl2 ?_ | refine σb ?_ | refine σc ?_); simp (disch := omega) only [push_cast, ↓reduceIte, reduceCtorEq, ν1, ν2, ν3, ν4, ν5, ζ1, ζ2, ζ3, ζ4, ζ5, l2])))
  refine (nbytes_spec p.2 M2 (by omega)).mono ?_
  rintro r M3 ⟨rfl, rfl⟩
  have nb := nbytes_le hl
  (repeat (first | refine st ?_ | refine σa ?_ | refine d130_Nl2 ?_ | ((first | refine a130_Nl2 ?_ | refine σb ?_ | refine σc ?_); simp (disch := omega) only [push_cast, ↓reduceIte, reduceCtorEq, ν1, ν2, ν3, ν4, ν5, ζ1, ζ2, ζ3, ζ4, ζ5, w_i64])))
  ((first | refine retA.ret (by rfl) ?_ | refine retA.normal (by rfl) ?_); simp (disch := omega) only [push_cast, ↓reduceIte, reduceCtorEq, Nat.reduceAdd, Nat.reduceMul, Nat.reduceLeDiff, Nat.reduceLT, Nat.reduceSub, Int.reduceNe, Int.reduceEq, Int.reduceLE, Int.reduceLT, Int.reduceToNat])
  refine ⟨hFF, ?_⟩
  unfold sizeX
  rw [if_pos (show rightX p from c)]
  push_cast; rfl
 ·have d : decide (p = maskP p) = false := decide_eq_false c
  rw [d]
  (repeat (first | refine st ?_ | refine σa ?_ | refine d130_Nl2 ?_ | ((first | refine a130_Nl2 ?_ | refine σb ?_ | refine σc ?_); simp (disch := omega) only [push_cast, ↓reduceIte, reduceCtorEq, ν1, ν2, ν3, ν4, ν5, ζ1, ζ2, ζ3, ζ4, ζ5])))
  ((first | refine retA.ret (by rfl) ?_ | refine retA.normal (by rfl) ?_); simp (disch := omega) only [push_cast, ↓reduceIte, reduceCtorEq, Nat.reduceAdd, Nat.reduceMul, Nat.reduceLeDiff, Nat.reduceLT, Nat.reduceSub, Int.reduceNe, Int.reduceEq, Int.reduceLE, Int.reduceLT, Int.reduceToNat])
  refine ⟨hFF, ?_⟩
  unfold sizeX
  rw [if_neg (show ¬ rightX p from c)]; rfl
end Go.Proofs.Ytbdejnnbpdgjlaa.Ax
