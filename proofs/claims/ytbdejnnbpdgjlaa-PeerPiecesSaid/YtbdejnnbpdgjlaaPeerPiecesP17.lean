/- Contracts of functions over the abstract machine. No conditions: lemmas alone. -/
import Derived.Test.YtbdejnnbpdgjlaaPeerPiecesLibD
import Derived.Test.YtbdejnnbpdgjlaaPeerPiecesP0
import Derived.Test.YtbdejnnbpdgjlaaPeerPiecesP16
import Derived.Test.YtbdejnnbpdgjlaaPeerPiecesP11
import Derived.Test.YtbdejnnbpdgjlaaPeerPiecesP12
import Derived.Test.YtbdejnnbpdgjlaaPeerPiecesP13
namespace Go.Proofs.Ytbdejnnbpdgjlaa.Ax
open Go Go.RowKit
open Nat renaming reduceAdd → ν1, reduceMul → ν2, reduceLeDiff → ν3, reduceLT → ν4, reduceSub → ν5
open Int renaming reduceNe → ζ1, reduceEq → ζ2, reduceLE → ζ3, reduceLT → ζ4, reduceToNat → ζ5
set_option linter.unusedVariables false
set_option linter.unusedSimpArgs false
set_option maxRecDepth 100000
set_option maxHeartbeats 20000000
attribute [local irreducible] thenA blockA scopeA retA AL AW AD ADL AH clrK CallA apure aload bload appK ptrK fnK ares szOk planOk okOps
def sameP (a b : AV) : Bool := decide (a.origin = b.origin) && (decide (a.hop = b.hop) && (decide (a.med = b.med) && (decide (a.pref = b.pref) && ((a.hasMed == b.hasMed) && ((a.hasPref == b.hasPref) && (decide (a.path = b.path) && decide (a.comms = b.comms)))))))
theorem same_spec (v w : Value) (a b : AV) (M : Mem) (ha : AVval M v a) (hb : AVval M w b) (h1 : a.path.length ≤ 1000000) (h2 : a.comms.length ≤ 1000000) : CallA Try.prog 60 [v, w] M fun r M' => Fr M M' [] ∧ r = .bool (sameP a b) := by
 obtain ⟨p, c, rfl, hp, hc⟩ := ha
 obtain ⟨q, dd, rfl, hq, hd⟩ := hb
 have l2 : ∀ (ty : TypeId) (X Y : Blk) (j : Nat), aload Try.prog ty (M ++ [X] ++ [Y]) M.length j = bload Try.prog ty X.cells j := fun ty X Y j => ((At.push M X).keep (Fr.push _ Y) (by simp)).ld
 have l3 : ∀ (ty : TypeId) (X Y : Blk) (j : Nat), aload Try.prog ty (M ++ [X] ++ [Y]) (M ++ [X]).length j = bload Try.prog ty Y.cells j := fun ty X Y j => (At.push (M ++ [X]) Y).ld
 have hfr : ∀ X Y : Blk, Fr M (M ++ [X] ++ [Y]) [] := fun X Y => (Fr.push M X).tr (Fr.push _ Y)
 have beq : ∀ x y : Bool, abin2 Try.prog .eql 4 (.bool x) (.bool y) = some (.bool (x == y)) := fun x y => by
  have hu : Try.prog.underlying 4 = some .bool := by kernel_rfl
  simp only [abin2, isShift, hu]
 (refine CallA.of_body Try.func60 rfl (by rfl) ?_; simp only [Try.ntmps60, List.length_cons, List.length_nil, List.replicate, List.cons_append, List.nil_append, Nat.reduceSub, Nat.reduceAdd])
 by_cases horigin : a.origin = b.origin
 rotate_left
 ·have d : decide (a.origin = b.origin) = false := decide_eq_false horigin
  (repeat (first | refine st ?_ | refine σa ?_ | (refine σb ?_; simp (disch := omega) only [push_cast, ↓reduceIte, reduceCtorEq, ν1, ν2, ν3, ν4, ν5, ζ1, ζ2, ζ3, ζ4, ζ5, l2, l3, d, beq])))
  ((first | refine retA.ret (by rfl) ?_ | refine retA.normal (by rfl) ?_); simp (disch := omega) only [push_cast, ↓reduceIte, reduceCtorEq, Nat.reduceAdd, Nat.reduceMul, Nat.reduceLeDiff, Nat.reduceLT, Nat.reduceSub, Int.reduceNe, Int.reduceEq, Int.reduceLE, Int.reduceLT, Int.reduceToNat])
  exact ⟨hfr _ _, by simp [sameP, horigin]⟩
 have dorigin : decide (b.origin = b.origin) = true := decide_eq_true rfl
 by_cases hhop : a.hop = b.hop
 rotate_left
 ·have d : decide (a.hop = b.hop) = false := decide_eq_false hhop
  (repeat (first | refine st ?_ | refine σa ?_ | (refine σb ?_; simp (disch := omega) only [push_cast, ↓reduceIte, reduceCtorEq, ν1, ν2, ν3, ν4, ν5, ζ1, ζ2, ζ3, ζ4, ζ5, l2, l3, horigin, dorigin, d, beq])))
  ((first | refine retA.ret (by rfl) ?_ | refine retA.normal (by rfl) ?_); simp (disch := omega) only [push_cast, ↓reduceIte, reduceCtorEq, Nat.reduceAdd, Nat.reduceMul, Nat.reduceLeDiff, Nat.reduceLT, Nat.reduceSub, Int.reduceNe, Int.reduceEq, Int.reduceLE, Int.reduceLT, Int.reduceToNat])
  exact ⟨hfr _ _, by simp [sameP, hhop]⟩
 have dhop : decide (b.hop = b.hop) = true := decide_eq_true rfl
 by_cases hmed : a.med = b.med
 rotate_left
 ·have d : decide (a.med = b.med) = false := decide_eq_false hmed
  (repeat (first | refine st ?_ | refine σa ?_ | (refine σb ?_; simp (disch := omega) only [push_cast, ↓reduceIte, reduceCtorEq, ν1, ν2, ν3, ν4, ν5, ζ1, ζ2, ζ3, ζ4, ζ5, l2, l3, horigin, dorigin, hhop, dhop, d, beq])))
  ((first | refine retA.ret (by rfl) ?_ | refine retA.normal (by rfl) ?_); simp (disch := omega) only [push_cast, ↓reduceIte, reduceCtorEq, Nat.reduceAdd, Nat.reduceMul, Nat.reduceLeDiff, Nat.reduceLT, Nat.reduceSub, Int.reduceNe, Int.reduceEq, Int.reduceLE, Int.reduceLT, Int.reduceToNat])
  exact ⟨hfr _ _, by simp [sameP, hmed]⟩
 have dmed : decide (b.med = b.med) = true := decide_eq_true rfl
 by_cases hpref : a.pref = b.pref
 rotate_left
 ·have d : decide (a.pref = b.pref) = false := decide_eq_false hpref
  (repeat (first | refine st ?_ | refine σa ?_ | (refine σb ?_; simp (disch := omega) only [push_cast, ↓reduceIte, reduceCtorEq, ν1, ν2, ν3, ν4, ν5, ζ1, ζ2, ζ3, ζ4, ζ5, l2, l3, horigin, dorigin, hhop, dhop, hmed, dmed, d, beq])))
  ((first | refine retA.ret (by rfl) ?_ | refine retA.normal (by rfl) ?_); simp (disch := omega) only [push_cast, ↓reduceIte, reduceCtorEq, Nat.reduceAdd, Nat.reduceMul, Nat.reduceLeDiff, Nat.reduceLT, Nat.reduceSub, Int.reduceNe, Int.reduceEq, Int.reduceLE, Int.reduceLT, Int.reduceToNat])
  exact ⟨hfr _ _, by simp [sameP, hpref]⟩
 have dpref : decide (b.pref = b.pref) = true := decide_eq_true rfl
 by_cases hm : (a.hasMed == b.hasMed) = true
 rotate_left
 ·have hm' : (a.hasMed == b.hasMed) = false := by simpa using hm
  (repeat (first | refine st ?_ | refine σa ?_ | (refine σb ?_; simp (disch := omega) only [push_cast, ↓reduceIte, reduceCtorEq, ν1, ν2, ν3, ν4, ν5, ζ1, ζ2, ζ3, ζ4, ζ5, l2, l3, horigin, dorigin, hhop, dhop, hmed, dmed, hpref, dpref, hm', beq])))
  ((first | refine retA.ret (by rfl) ?_ | refine retA.normal (by rfl) ?_); simp (disch := omega) only [push_cast, ↓reduceIte, reduceCtorEq, Nat.reduceAdd, Nat.reduceMul, Nat.reduceLeDiff, Nat.reduceLT, Nat.reduceSub, Int.reduceNe, Int.reduceEq, Int.reduceLE, Int.reduceLT, Int.reduceToNat])
  exact ⟨hfr _ _, by simp [sameP, hm']⟩
 by_cases hr : (a.hasPref == b.hasPref) = true
 rotate_left
 ·have hr' : (a.hasPref == b.hasPref) = false := by simpa using hr
  (repeat (first | refine st ?_ | refine σa ?_ | (refine σb ?_; simp (disch := omega) only [push_cast, ↓reduceIte, reduceCtorEq, ν1, ν2, ν3, ν4, ν5, ζ1, ζ2, ζ3, ζ4, ζ5, l2, l3, horigin, dorigin, hhop, dhop, hmed, dmed, hpref, dpref, hm, hr', beq])))
  ((first | refine retA.ret (by rfl) ?_ | refine retA.normal (by rfl) ?_); simp (disch := omega) only [push_cast, ↓reduceIte, reduceCtorEq, Nat.reduceAdd, Nat.reduceMul, Nat.reduceLeDiff, Nat.reduceLT, Nat.reduceSub, Int.reduceNe, Int.reduceEq, Int.reduceLE, Int.reduceLT, Int.reduceToNat])
  exact ⟨hfr _ _, by simp [sameP, hr']⟩
 (repeat (first | refine st ?_ | refine σa ?_ | (refine σb ?_; simp (disch := omega) only [push_cast, ↓reduceIte, reduceCtorEq, ν1, ν2, ν3, ν4, ν5, ζ1, ζ2, ζ3, ζ4, ζ5, l2, l3, horigin, dorigin, hhop, dhop, hmed, dmed, hpref, dpref, hm, hr, beq])))
 refine (nums_spec p q _ _ _ (hp.keep (hfr _ _) (by simp)) (hq.keep (hfr _ _) (by simp)) (by omega)).mono ?_
 rintro r M1 ⟨rfl, rfl⟩
 by_cases hpq : a.path = b.path
 rotate_left
 ·have d : decide (a.path = b.path) = false := decide_eq_false hpq
  (repeat (first | refine st ?_ | refine σa ?_ | (refine σb ?_; simp (disch := omega) only [push_cast, ↓reduceIte, reduceCtorEq, ν1, ν2, ν3, ν4, ν5, ζ1, ζ2, ζ3, ζ4, ζ5, l2, l3, d])))
  ((first | refine retA.ret (by rfl) ?_ | refine retA.normal (by rfl) ?_); simp (disch := omega) only [push_cast, ↓reduceIte, reduceCtorEq, Nat.reduceAdd, Nat.reduceMul, Nat.reduceLeDiff, Nat.reduceLT, Nat.reduceSub, Int.reduceNe, Int.reduceEq, Int.reduceLE, Int.reduceLT, Int.reduceToNat])
  exact ⟨hfr _ _, by simp [sameP, hpq]⟩
 have d : decide (a.path = b.path) = true := decide_eq_true hpq
 (repeat (first | refine st ?_ | refine σa ?_ | (refine σb ?_; simp (disch := omega) only [push_cast, ↓reduceIte, reduceCtorEq, ν1, ν2, ν3, ν4, ν5, ζ1, ζ2, ζ3, ζ4, ζ5, l2, l3, d])))
 refine (nums_spec c dd _ _ _ (hc.keep (hfr _ _) (by simp)) (hd.keep (hfr _ _) (by simp)) (by omega)).mono ?_
 rintro r M1 ⟨rfl, rfl⟩
 (repeat (first | refine st ?_ | refine σa ?_ | (refine σb ?_; simp (disch := omega) only [push_cast, ↓reduceIte, reduceCtorEq, ν1, ν2, ν3, ν4, ν5, ζ1, ζ2, ζ3, ζ4, ζ5])))
 ((first | refine retA.ret (by rfl) ?_ | refine retA.normal (by rfl) ?_); simp (disch := omega) only [push_cast, ↓reduceIte, reduceCtorEq, Nat.reduceAdd, Nat.reduceMul, Nat.reduceLeDiff, Nat.reduceLT, Nat.reduceSub, Int.reduceNe, Int.reduceEq, Int.reduceLE, Int.reduceLT, Int.reduceToNat])
 refine ⟨hfr _ _, ?_⟩
 have e1 : a.hasMed = b.hasMed := by simpa using hm
 have e2 : a.hasPref = b.hasPref := by simpa using hr
 simp [sameP, horigin, hhop, hmed, hpref, e1, e2, hpq]
theorem d22_Ar5 {g n : Prop} (k : n) (h : n → g := by first | exact AW.dr (id := 6) (by rfl) [0, 1, 2, 3, 4, 5, 6, 7, 8] (by kernel_rfl) (by kernel_rfl)) : g := h k
theorem bytes_spec (v w : Value) (xs ys : List Int) (M : Mem) (hv : Sl M v 1 (ints .u8 xs)) (hw : Sl M w 1 (ints .u8 ys)) (hl : xs.length ≤ 1000000000) : CallA Try.prog 22 [v, w] M fun r M' => M' = M ∧ r = .bool (decide (xs = ys)) := by
 have hs := hv.isSl
 have hn := hv.lnI
 have hs2 := hw.isSl
 have hn2 := hw.lnI
 (refine CallA.of_body Try.func22 rfl (by rfl) ?_; simp only [Try.ntmps22, List.length_cons, List.length_nil, List.replicate, List.cons_append, List.nil_append, Nat.reduceSub, Nat.reduceAdd])
 by_cases hlen : xs.length = ys.length
 ·have d0 : decide ((xs.length : Int) = ys.length) = true := decide_eq_true (by omega)
  (repeat (first | refine st ?_ | refine σa ?_ | refine d22_Ar5 ?_ | ((first | refine σb ?_ | refine σc ?_); simp (disch := omega) only [push_cast, ↓reduceIte, reduceCtorEq, ν1, ν2, ν3, ν4, ν5, ζ1, ζ2, ζ3, ζ4, ζ5, hs, hn, hs2, hn2, d0, Bool.not_true])))
  refine AW.loopF [4, 5, 13, 14, 15, 16, 17, 18, 19, 20, 21, 22, 23, 24, 25] (fun m g M' => ∃ i : Nat, g 13 = .int .i64 i ∧ i + m = xs.length ∧ M' = M ∧ ∀ q, q < i → xs.getD q 0 = ys.getD q 0) xs.length ?_ ?_
  ·exact ⟨0, rfl, by omega, rfl, fun q h => by omega⟩
  rintro m g M1 ⟨i, h13, hi, rfl, he⟩
  simp (disch := omega) only [push_cast, ↓reduceIte, reduceCtorEq, Nat.reduceAdd, Nat.reduceMul, Nat.reduceLeDiff, Nat.reduceLT, Nat.reduceSub, Int.reduceNe, Int.reduceEq, Int.reduceLE, Int.reduceLT, Int.reduceToNat, h13]
  (repeat (first | refine st ?_ | refine σa ?_ | refine d22_Ar5 ?_ | ((first | refine σb ?_ | refine σc ?_); simp (disch := omega) only [push_cast, ↓reduceIte, reduceCtorEq, ν1, ν2, ν3, ν4, ν5, ζ1, ζ2, ζ3, ζ4, ζ5])))
  ((first | refine AL.gu rfl (fun hlt => ?_) (fun hlt => ?_) | refine AW.condS rfl rfl (fun hlt => ?_) (fun hlt => ?_)) <;> (try (have hlt' := hlt; simp only [Bool.not_eq_true', Bool.not_eq_false', Bool.not_true, Bool.not_false, decide_eq_true_eq, decide_eq_false_iff_not, Classical.not_not, Int.not_lt, Int.not_le, gt_iff_lt, ge_iff_le, beq_iff_eq] at hlt')))
  ·have l1 := hv.ldN (P := Try.prog) (ty := 5) (i := i) (by kernel_rfl) (by omega)
   have l2 := hw.ldN (P := Try.prog) (ty := 5) (i := i) (by kernel_rfl) (by omega)
   (repeat (first | refine st ?_ | refine σa ?_ | refine d22_Ar5 ?_ | ((first | refine σb ?_ | refine σc ?_); simp (disch := omega) only [push_cast, ↓reduceIte, reduceCtorEq, ν1, ν2, ν3, ν4, ν5, ζ1, ζ2, ζ3, ζ4, ζ5, hs, hn, hs2, hn2, l1, l2, Int.toNat_natCast])))
   ((first | refine AL.gu rfl (fun hne => ?_) (fun hne => ?_) | refine AW.condS rfl rfl (fun hne => ?_) (fun hne => ?_)) <;> (try (have hne' := hne; simp only [Bool.not_eq_true', Bool.not_eq_false', Bool.not_true, Bool.not_false, decide_eq_true_eq, decide_eq_false_iff_not, Classical.not_not, Int.not_lt, Int.not_le, gt_iff_lt, ge_iff_le, beq_iff_eq] at hne')))
   ·(repeat (first | refine st ?_ | refine σa ?_ | refine d22_Ar5 ?_ | ((first | refine σb ?_ | refine σc ?_); simp (disch := omega) only [push_cast, ↓reduceIte, reduceCtorEq, ν1, ν2, ν3, ν4, ν5, ζ1, ζ2, ζ3, ζ4, ζ5])))
    ((first | refine retA.ret (by rfl) ?_ | refine retA.normal (by rfl) ?_); simp (disch := omega) only [push_cast, ↓reduceIte, reduceCtorEq, Nat.reduceAdd, Nat.reduceMul, Nat.reduceLeDiff, Nat.reduceLT, Nat.reduceSub, Int.reduceNe, Int.reduceEq, Int.reduceLE, Int.reduceLT, Int.reduceToNat])
    have hx : xs ≠ ys := fun e => hne' (by rw [e])
    simp [hx]
   ·(repeat (first | refine st ?_ | refine σa ?_ | refine d22_Ar5 ?_ | ((first | refine σb ?_ | refine σc ?_); simp (disch := omega) only [push_cast, ↓reduceIte, reduceCtorEq, ν1, ν2, ν3, ν4, ν5, ζ1, ζ2, ζ3, ζ4, ζ5, w_i64])))
    refine ⟨rfl, m - 1, by omega, i + 1, rfl, by omega, rfl, fun q hq => ?_⟩
    by_cases e : q = i
    ·rw [e]; exact hne'
    ·exact he q (by omega)
  ·(repeat (first | refine st ?_ | refine σa ?_ | refine d22_Ar5 ?_ | ((first | refine σb ?_ | refine σc ?_); simp (disch := omega) only [push_cast, ↓reduceIte, reduceCtorEq, ν1, ν2, ν3, ν4, ν5, ζ1, ζ2, ζ3, ζ4, ζ5])))
   ((first | refine retA.ret (by rfl) ?_ | refine retA.normal (by rfl) ?_); simp (disch := omega) only [push_cast, ↓reduceIte, reduceCtorEq, Nat.reduceAdd, Nat.reduceMul, Nat.reduceLeDiff, Nat.reduceLT, Nat.reduceSub, Int.reduceNe, Int.reduceEq, Int.reduceLE, Int.reduceLT, Int.reduceToNat])
   have hx : xs = ys := by
    apply List.ext_getElem hlen
    intro q h1 h2
    have := he q (by omega)
    rwa [getD_lt h1, getD_lt h2] at this
   simp [hx]
 ·have d0 : decide ((xs.length : Int) = ys.length) = false := decide_eq_false (by omega)
  (repeat (first | refine st ?_ | refine σa ?_ | refine d22_Ar5 ?_ | ((first | refine σb ?_ | refine σc ?_); simp (disch := omega) only [push_cast, ↓reduceIte, reduceCtorEq, ν1, ν2, ν3, ν4, ν5, ζ1, ζ2, ζ3, ζ4, ζ5, hs, hn, hs2, hn2, d0, Bool.not_false])))
  ((first | refine retA.ret (by rfl) ?_ | refine retA.normal (by rfl) ?_); simp (disch := omega) only [push_cast, ↓reduceIte, reduceCtorEq, Nat.reduceAdd, Nat.reduceMul, Nat.reduceLeDiff, Nat.reduceLT, Nat.reduceSub, Int.reduceNe, Int.reduceEq, Int.reduceLE, Int.reduceLT, Int.reduceToNat])
  have hx : xs ≠ ys := fun e => hlen (by rw [e])
  simp [hx]
theorem sameP_self (a : AV) : sameP a a = true := by simp [sameP]
theorem take_len {a : AV} {k : Int} {v : List Int} (h1 : a.path.length ≤ 255 ∧ a.comms.length ≤ 255) : (takeP a k v).1.path.length ≤ 255 ∧ (takeP a k v).1.comms.length ≤ 255 := by
 unfold takeP
 split
 ·exact h1
 split
 ·split <;> exact h1
 split
 ·cases hp : pathP v with
  | none => exact h1
  | some l =>
   unfold pathP at hp
   obtain ⟨m, hm1, hm2⟩ := Option.bind_eq_some_iff.1 hp
   split at hm2
   ·cases hm2
    rename_i hc
    exact ⟨hc.1, h1.2⟩
   ·cases hm2
 split
 ·split <;> exact h1
 split
 ·exact h1
 split
 ·exact h1
 split
 ·split
  ·exact h1
  ·exact ⟨h1.1, by simp only; omega⟩
 exact h1
theorem readP_len {need : Bool} : ∀ {f : Nat} {xs : List Int} {met : Int → Bool} {a : AV}, a.path.length ≤ 255 ∧ a.comms.length ≤ 255 → (readP need f xs met a).1.path.length ≤ 255 ∧ (readP need f xs met a).1.comms.length ≤ 255
 | 0, _, _, _, _ => ⟨Nat.zero_le _, Nat.zero_le _⟩
 | f + 1, xs, met, a, h => by
  by_cases hx : xs = []
  ·subst hx
   rw [readP_nil]
   split
   ·exact ⟨Nat.zero_le _, Nat.zero_le _⟩
   ·exact h
  ·rw [readP_step _ _ _ _ _ hx]
   split
   ·exact ⟨Nat.zero_le _, Nat.zero_le _⟩
   ·split
    ·refine readP_len ?_
     unfold stepA
     split
     ·exact h
     ·exact take_len h
    ·exact ⟨Nat.zero_le _, Nat.zero_le _⟩
theorem rd_len {need : Bool} {xs : List Int} (hb : ∀ x ∈ xs, 0 ≤ x ∧ x ≤ 255) : (rdP need xs).1.path.length ≤ 255 ∧ (rdP need xs).1.comms.length ≤ 255 := readP_len ⟨Nat.zero_le _, Nat.zero_le _⟩
theorem Sl.lit (M : Mem) (n : Nat) (xs : List Int) (h : n = xs.length) (hn : n < capLow) : Sl (M ++ [.row true 1 (ints .u8 xs)]) (.slice (some ⟨M.length, 0, none⟩) n n) 1 (ints .u8 xs) := (New.row M (by omega) (by rw [ints_length]; omega) (ints_one _ _) hn).sl
theorem readKn {v : Value} {xs : List Int} {need : Bool} {M : Mem} {A : AV} {e : Int} {K : Value → Mem → Prop} (hv : Sl M v 1 (ints .u8 xs)) (hx : xs.length ≤ 100000) (hb : ∀ x ∈ xs, 0 ≤ x ∧ x ≤ 255) (h : rdP need xs = (A, e))
  (hK : ∀ M' p c, Fr M M' [] → Sl M' p 1 (ints .u32 A.path) → Sl M' c 1 (ints .u32 A.comms) → Value.oneCell' p = true → Value.oneCell' c = true → (∀ b ∈ blkOf p, M.length ≤ b) → (∀ b ∈ blkOf c, M.length ≤ b) → K (.tuple ⟨[.agg ⟨avL A p c⟩, .int .i64 e]⟩) M') : CallA Try.prog 89 [v, .bool need] M K := by
 refine (read_spec v xs need M hv hx hb).mono ?_
 rintro r M' ⟨hF, w, rfl, hA⟩
 have h' : readP need (xs.length + 1) xs (fun _ => false) AV.zero = (A, e) := h
 rw [h'] at hA ⊢
 obtain ⟨p, c, rfl, hp, hc, hpb, hcb⟩ := hA
 exact hK M' p c hF hp hc (isSl_one hp.isSl) (isSl_one hc.isSl) hpb hcb
end Go.Proofs.Ytbdejnnbpdgjlaa.Ax
namespace Go.Proofs.Ytbdejnnbpdgjlaa.Ax
open Go Go.RowKit
set_option linter.unusedVariables false
set_option linter.unusedSimpArgs false
set_option maxRecDepth 100000
set_option maxHeartbeats 20000000
theorem nlRead_len : ∀ (f : Nat) (xs : List Int), (nlRead f xs).1.length ≤ xs.length
 | 0, xs => by simp [nlRead]
 | f + 1, xs => by
  unfold nlRead
  split
  ·simp
  ·rename_i h
   have hp := List.length_pos_iff.2 h
   split
   ·simp
   ·split
    ·simp
    ·have ih := nlRead_len f (xs.drop (1 + nbytes (xs.getD 0 0)))
     rw [List.length_drop] at ih
     generalize nlRead f _ = r at *
     obtain ⟨r1, r2⟩ := r
     have : 1 ≤ xs.length := hp
     simp only at ih ⊢
     split <;> simp <;> omega
theorem nlR_len (xs : List Int) : (nlR xs).1.length ≤ xs.length := nlRead_len _ xs
theorem readM_size {b : List Int} (hb : bytesL b) (hl : b.length ≤ 10000000) : sizeM (readM b).1 := by
 have z : sizeM MV.zero := by simp [sizeM, MV.zero, AV.zero]
 unfold readM
 split
 ·exact z
 split
 ·exact z
 split
 ·exact z
 split
 ·exact z
 split
 ·rename_i c1 c2 c3 c4 c5
  rcases headF_cases b with h | h | ⟨_, h1, h2, h3, h4, _, _⟩
  ·exact absurd (by rw [h]; simp) c3
  ·exact absurd (by rw [h]; simp) c3
  have hbb : bytesL ((b.drop 19).take ((pairAt b 16).toNat - 19)) := (hb.drop 19).take _
  have hln : ((b.drop 19).take ((pairAt b 16).toNat - 19)).length ≤ 4077 := by rw [List.length_take]; omega
  generalize (b.drop 19).take ((pairAt b 16).toNat - 19) = B at *
  show sizeM (bodyP (b.getD 18 0) B).1
  unfold bodyP
  split
  ·unfold openP
   split
   ·exact z
   split
   ·exact z
   split
   ·exact z
   ·split
    ·exact z
    split
    ·exact z
    split
    ·exact z
    split
    ·exact z
    ·simp [sizeM, MV.zero, AV.zero]
  split
  ·unfold updateP
   split
   ·exact z
   split
   ·exact z
   split
   ·exact z
   ·have a1 := nlR_len ((B.drop 2).take (updG B))
    have a2 := nlR_len (B.drop (4 + updG B + updA B))
    have a3 := rd_len (need := decide ((nlR (B.drop (4 + updG B + updA B))).1 ≠ [])) (xs := (B.drop (4 + updG B)).take (updA B)) ((hbb.drop _).take _)
    have b1 : ((B.drop 2).take (updG B)).length ≤ 4077 := by rw [List.length_take, List.length_drop]; omega
    have b2 : (B.drop (4 + updG B + updA B)).length ≤ 4077 := by rw [List.length_drop]; omega
    unfold sizeM
    refine ⟨?_, ?_, by simp [MV.zero], ?_, ?_⟩
    ·show (nlR ((B.drop 2).take (updG B))).1.length ≤ 20000
     omega
    ·show (nlR (B.drop (4 + updG B + updA B))).1.length ≤ 20000
     omega
    ·show (rdP _ _).1.path.length ≤ 100000
     omega
    ·show (rdP _ _).1.comms.length ≤ 100000
     omega
  split
  ·unfold sizeM
   refine ⟨by simp [MV.zero], by simp [MV.zero], ?_, by simp [MV.zero, AV.zero], by simp [MV.zero, AV.zero]⟩
   show (B.drop 2).length ≤ 20000
   rw [List.length_drop]; omega
  ·simp [sizeM, MV.zero, AV.zero]
 ·exact z
theorem putM_bytes {m : MV} (hg : goodM m) : (putM m).1.length ≤ 4096 := by
 unfold putM
 split
 ·simp
 split
 ·simp
 split
 ·simp
 ·rename_i h1 h2 h3
  simp [twoB]
  omega
structure CF where
 asn : Int
 id : Int
 hold : Int
 peer : Int
structure PV where
 conf : CF
 state : Int
 buf : List Int
 hold : Int
 heard : Int
 said : Int
 id : Int
structure EV where
 kind : Int
 msg : MV
structure ST where
 p : PV
 out : List Int
 evs : List EV
def rightC (c : CF) : Prop := c.asn ≠ 0 ∧ c.id ≠ 0 ∧ c.peer ≠ 0 ∧ (c.hold = 0 ∨ (3 ≤ c.hold ∧ c.hold ≤ 65535))
instance (c : CF) : Decidable (rightC c) := by unfold rightC; infer_instance
def liveP (p : PV) : Prop := rightC p.conf ∧ 1 < p.state ∧ p.state ≤ 4
instance (p : PV) : Decidable (liveP p) := by unfold liveP; infer_instance
def freshP (c : CF) (state : Int) : PV := ⟨c, state, [], 0, 0, 0, 0⟩
def CF.zero : CF := ⟨0, 0, 0, 0⟩
def newP (c : CF) : PV × Int := if rightC c then (freshP c 1, 0) else (freshP CF.zero 0, 2)
def sayP (s : ST) (m : MV) : ST := { s with out := s.out ++ (putM m).1 }
def quietP (s : ST) : ST := { s with p := freshP s.p.conf 1, evs := s.evs ++ [⟨3, MV.zero⟩] }
def noticeM (code sub : Int) : MV := { MV.zero with kind := 3, code := code, sub := sub }
def aliveM : MV := { MV.zero with kind := 4 }
def openM (c : CF) : MV := { MV.zero with kind := 1, asn := c.asn, id := c.id, hold := c.hold }
def downP (s : ST) (code sub : Int) : ST := quietP (sayP s (noticeM code sub))
def openS (s : ST) (m : MV) : ST :=
 if m.asn ≠ s.p.conf.peer then downP s 2 2 else if m.id = s.p.conf.id then downP s 2 3
 else sayP { s with p := { s.p with state := 3, hold := min s.p.conf.hold m.hold, heard := 0, said := 0, id := m.id } } aliveM
def takeS (s : ST) (m : MV) : ST :=
 if m.kind = 3 then quietP s
 else if s.p.state = 2 then (if m.kind = 1 then openS s m else downP s 5 1)
 else if s.p.state = 3 then (if m.kind = 4 then { s with p := { s.p with state := 4, heard := 0 }, evs := s.evs ++ [⟨1, MV.zero⟩] } else downP s 5 2)
 else if s.p.state = 4 then (if m.kind = 1 then downP s 5 3 else { s with p := { s.p with heard := 0 }, evs := if m.kind = 2 then s.evs ++ [⟨2, m⟩] else s.evs })
 else s
def feedS : Nat → ST → ST
 | 0, s => s
 | f + 1, s => if s.p.state = 1 then s
   else if (readM s.p.buf).2.2 ≠ (0, 0) then downP s (readM s.p.buf).2.2.1 (readM s.p.buf).2.2.2
   else if (readM s.p.buf).2.1 = 0 then s
   else feedS f (takeS { s with p := { s.p with buf := s.p.buf.drop (readM s.p.buf).2.1.toNat } } (readM s.p.buf).1)
def stepOf (p : PV) : ST := ⟨p, [], []⟩
def startP (p : PV) : ST := if rightC p.conf ∧ p.state = 1 then sayP (stepOf (freshP p.conf 2)) (openM p.conf) else stepOf p
def feedP (p : PV) (b : List Int) : ST := if liveP p then feedS ((p.buf ++ b).length + 1) { stepOf p with p := { p with buf := p.buf ++ b } } else stepOf p
theorem feedS_fuel : ∀ {f g : Nat} {s : ST}, bytesL s.p.buf → s.p.buf.length < f → s.p.buf.length < g → feedS f s = feedS g s
 | 0, _, _, _, h, _ => absurd h (Nat.not_lt_zero _)
 | _, 0, _, _, _, h => absurd h (Nat.not_lt_zero _)
 | f + 1, g + 1, s, hb, h1, h2 => by
  unfold feedS
  split
  ·rfl
  split
  ·rfl
  split
  ·rfl
  ·rename_i c1 c2 c3
   have key : ∀ t : ST, (takeS t (readM s.p.buf).1).p.buf = t.p.buf ∨ (takeS t (readM s.p.buf).1).p.buf = [] := by
    intro t
    unfold takeS
    split
    ·exact .inr rfl
    split
    ·split
     ·unfold openS
      split
      ·exact .inr rfl
      split
      ·exact .inr rfl
      ·exact .inl rfl
     ·exact .inr rfl
    split
    ·split
     ·exact .inl rfl
     ·exact .inr rfl
    split
    ·split
     ·exact .inr rfl
     ·exact .inl rfl
    ·exact .inl rfl
   rcases readM_cases hb with h | ⟨m, h, g1, g2, _⟩ | ⟨f', h, hne, _⟩
   ·rw [h] at c3; exact absurd rfl c3
   ·have hk := key { s with p := { s.p with buf := s.p.buf.drop (readM s.p.buf).2.1.toNat } }
    have hn : (readM s.p.buf).2.1.toNat ≥ 19 := by rw [h]; show (pairAt s.p.buf 16).toNat ≥ 19; omega
    have hbl : 0 < s.p.buf.length := by omega
    refine feedS_fuel ?_ ?_ ?_
    ·rcases hk with e | e
     ·rw [e]; exact hb.drop _
     ·rw [e]; intro x hx; cases hx
    ·rcases hk with e | e
     ·rw [e]; show (s.p.buf.drop _).length < f; rw [List.length_drop]; omega
     ·rw [e]; show 0 < f; omega
    ·rcases hk with e | e
     ·rw [e]; show (s.p.buf.drop _).length < g; rw [List.length_drop]; omega
     ·rw [e]; show 0 < g; omega
   ·rw [h] at c2; exact absurd hne c2
end Go.Proofs.Ytbdejnnbpdgjlaa.Ax
namespace Go.Proofs.Ytbdejnnbpdgjlaa.Ax
open Go Go.RowKit
open Nat renaming reduceAdd → ν1, reduceMul → ν2, reduceLeDiff → ν3, reduceLT → ν4, reduceSub → ν5
open Int renaming reduceNe → ζ1, reduceEq → ζ2, reduceLE → ζ3, reduceLT → ζ4, reduceToNat → ζ5
set_option linter.unusedVariables false
set_option linter.unusedSimpArgs false
set_option maxRecDepth 100000
set_option maxHeartbeats 20000000
attribute [local irreducible] thenA blockA scopeA retA AL AW AD ADL AH clrK CallA apure aload bload appK ptrK fnK ares szOk planOk okOps
theorem capP_fuel : ∀ {f g : Nat} {v : List Int} {a : Int} {h : Bool}, v.length < f → v.length < g → capP f v a h = capP g v a h
 | 0, _, _, _, _, h, _ => absurd h (Nat.not_lt_zero _)
 | _, 0, _, _, _, _, h => absurd h (Nat.not_lt_zero _)
 | f + 1, g + 1, v, a, h, h1, h2 => by
  unfold capP
  split
  ·rfl
  ·rename_i hne
   have hp := List.length_pos_iff.2 hne
   split
   ·rfl
   ·exact capP_fuel (by rw [List.length_drop]; omega) (by rw [List.length_drop]; omega)
def CapJ (M : Mem) (p lo : Nat) (R : Option (Int × Bool)) (n : Nat) (va vh : Value) (M' : Mem) : Prop := ∃ ys sh a h, va = .int .u32 a ∧ vh = .bool h ∧ RdA M' p lo ys sh ∧ Fr M M' [p] ∧ ys.length ≤ 100000 ∧ (∀ x ∈ ys, 0 ≤ x ∧ x ≤ 255) ∧
 ((sh = false ∧ n = ys.length ∧ R = capP (ys.length + 1) ys a h) ∨ (sh = true ∧ n = 0 ∧ R = none))
theorem cap_spec (p lo : Nat) (xs : List Int) (asn : Int) (has : Bool) (M : Mem) (hr : RdA M p lo xs false) (hb : ∀ x ∈ xs, 0 ≤ x ∧ x ≤ 255) (hl : xs.length ≤ 100000) :
  CallA Try.prog 86 [.pointer (some ⟨p, 0, none⟩), .int .u32 asn, .bool has] M fun r M' => Fr M M' [p] ∧ ∃ ys sh, RdA M' p lo ys sh ∧ ∃ a h, r = .tuple ⟨[.int .u32 a, .bool h]⟩ ∧
   ((sh = true ∧ capP (xs.length + 1) xs asn has = none) ∨ (sh = false ∧ capP (xs.length + 1) xs asn has = some (a, h))) := by
 generalize hR : capP (xs.length + 1) xs asn has = R
 (refine CallA.of_body Try.func86 rfl (by rfl) ?_; simp only [Try.ntmps86, List.length_cons, List.length_nil, List.replicate, List.cons_append, List.nil_append, Nat.reduceSub, Nat.reduceAdd])
 (repeat (first | refine st ?_ | refine σa ?_ | (refine σb ?_; simp (disch := omega) only [push_cast, ↓reduceIte, reduceCtorEq, ν1, ν2, ν3, ν4, ν5, ζ1, ζ2, ζ3, ζ4, ζ5])))
 refine AW.loopF [1, 2, 8, 9, 10, 11, 12, 13, 14, 15, 16, 17, 18, 19, 20, 21, 22, 23, 24, 25, 26, 27, 28, 29, 30, 31, 32, 33, 34, 35, 36, 37, 38, 39, 40, 41, 42, 43, 44, 45, 46, 47] (fun n g M' => CapJ M p lo R n (g 1) (g 2) M') xs.length ?_ ?_
 ·exact ⟨xs, false, asn, has, rfl, rfl, hr, (Fr.refl M).cut (by simp), hl, hb, .inl ⟨rfl, rfl, hR.symm⟩⟩
 rintro n g M1 ⟨ys, sh, a, h, h1, h2, hR1, hF, hyl, hyb, hS⟩
 simp (disch := omega) only [push_cast, ↓reduceIte, reduceCtorEq, Nat.reduceAdd, Nat.reduceMul, Nat.reduceLeDiff, Nat.reduceLT, Nat.reduceSub, Int.reduceNe, Int.reduceEq, Int.reduceLE, Int.reduceLT, Int.reduceToNat, h1, h2]
 have hR1' := hR1
 obtain ⟨v, hat, hv, hlo, hvl⟩ := hR1'
 have hpv : p ∉ blkOf v := fun h => by have := hvl p h; omega
 have sv := hv.isSl
 have lv := hv.lnI
 by_cases hne : ys = []
 ·have d : decide ((ys.length : Int) > 0) = false := decide_eq_false (by rw [hne]; simp)
  (repeat (first | refine st ?_ | refine σa ?_ | (refine σb ?_; simp (disch := omega) only [push_cast, ↓reduceIte, reduceCtorEq, ν1, ν2, ν3, ν4, ν5, ζ1, ζ2, ζ3, ζ4, ζ5, hat.ld, sv, lv, d, buildE])))
  ((first | refine retA.ret (by rfl) ?_ | refine retA.normal (by rfl) ?_); simp (disch := omega) only [push_cast, ↓reduceIte, reduceCtorEq, Nat.reduceAdd, Nat.reduceMul, Nat.reduceLeDiff, Nat.reduceLT, Nat.reduceSub, Int.reduceNe, Int.reduceEq, Int.reduceLE, Int.reduceLT, Int.reduceToNat])
  refine ⟨hF, ys, sh, hR1, a, h, rfl, ?_⟩
  rcases hS with ⟨e1, e2, e3⟩ | ⟨e1, e2, e3⟩
  ·exact .inr ⟨e1, by rw [e3, hne]; rfl⟩
  ·exact .inl ⟨e1, e3⟩
 have hpos := List.length_pos_iff.2 hne
 have d : decide ((ys.length : Int) > 0) = true := decide_eq_true (by omega)
 rcases hS with ⟨rfl, rfl, hRy⟩ | ⟨rfl, rfl, hRn⟩
 rotate_left
 ·(repeat (first | refine st ?_ | refine σa ?_ | (refine σb ?_; simp (disch := omega) only [push_cast, ↓reduceIte, reduceCtorEq, ν1, ν2, ν3, ν4, ν5, ζ1, ζ2, ζ3, ζ4, ζ5, hat.ld, sv, lv, d, Bool.not_true, Bool.not_false, buildE])))
  ((first | refine retA.ret (by rfl) ?_ | refine retA.normal (by rfl) ?_); simp (disch := omega) only [push_cast, ↓reduceIte, reduceCtorEq, Nat.reduceAdd, Nat.reduceMul, Nat.reduceLeDiff, Nat.reduceLT, Nat.reduceSub, Int.reduceNe, Int.reduceEq, Int.reduceLE, Int.reduceLT, Int.reduceToNat])
  exact ⟨hF, ys, true, hR1, a, h, rfl, .inl ⟨rfl, hRn⟩⟩
 (repeat (first | refine st ?_ | refine σa ?_ | (refine σb ?_; simp (disch := omega) only [push_cast, ↓reduceIte, reduceCtorEq, ν1, ν2, ν3, ν4, ν5, ζ1, ζ2, ζ3, ζ4, ζ5, hat.ld, sv, lv, d, Bool.not_true, Bool.not_false, buildE])))
 refine (roct_spec p lo ys false M1 hR1 hyb).mono ?_
 rintro r M2 ⟨f2, r2, rfl⟩
 (repeat (first | refine st ?_ | refine σa ?_ | (refine σb ?_; simp (disch := omega) only [push_cast, ↓reduceIte, reduceCtorEq, ν1, ν2, ν3, ν4, ν5, ζ1, ζ2, ζ3, ζ4, ζ5])))
 refine (roct_spec p lo _ _ M2 r2 (fun x hx => hyb x (List.mem_of_mem_drop hx))).mono ?_
 rintro r M3 ⟨f3, r3, rfl⟩
 have hb2 : ∀ x ∈ (ys.drop 1).drop 1, 0 ≤ x ∧ x ≤ 255 := fun x hx => hyb x (List.mem_of_mem_drop (List.mem_of_mem_drop hx))
 have e1 : (ys.drop 1).getD 0 0 = ys.getD 1 0 := by simp [List.getD_eq_getElem?_getD]
 have e2 : (ys.drop 1).drop 1 = ys.drop 2 := by rw [List.drop_drop]
 obtain ⟨S2, hS2⟩ : ∃ S2, S2 = (false || decide (ys.length < 1) || decide ((ys.drop 1).length < 1)) := ⟨_, rfl⟩
 rw [← hS2, e2] at r3
 rw [e2] at hb2
 have b0 := getD_byte hyb 0
 have b1 := getD_byte hyb 1
 obtain ⟨k, hk⟩ : ∃ k : Nat, ys.getD 1 0 = k := ⟨(ys.getD 1 0).toNat, by have := b1.1; omega⟩
 obtain ⟨z, hz⟩ : ∃ z, z = ys.getD 0 0 := ⟨_, rfl⟩
 have b11 := b1.1
 have b12 := b1.2
 rw [hk] at e1 b11 b12
 rw [e1, ← hz]
 have hkn : (ys.getD 1 0).toNat = k := by omega
 (repeat (first | refine st ?_ | refine σa ?_ | (refine σb ?_; simp (disch := omega) only [push_cast, ↓reduceIte, reduceCtorEq, ν1, ν2, ν3, ν4, ν5, ζ1, ζ2, ζ3, ζ4, ζ5])))
 refine (rtake_spec p lo k _ _ M3 r3 (by omega)).mono ?_
 rintro r M4 ⟨f4, r4, s4, hp4⟩
 have F4 : Fr M M4 [p] := (((hF.trans f2).trans f3).trans f4).cut (fun b hb _ => by simpa using hb)
 obtain ⟨S, hS⟩ : ∃ S, S = (S2 || decide ((ys.drop 2).length < k)) := ⟨_, rfl⟩
 rw [← hS] at r4
 have r4' := r4
 obtain ⟨v4, at4, sl4, lo4, vl4⟩ := r4'
 have no4 : p ∉ blkOf v4 := fun h => by have := vl4 p h; omega
 have hdd : (ys.drop 2).drop k = ys.drop (2 + k) := by rw [List.drop_drop]
 have hcap : capP (ys.length + 1) ys a h = if ys.length < 2 ∨ ys.length - 2 < k ∨ (z = 65 ∧ (k : Int) ≠ 4) then none else capP ys.length (ys.drop (2 + k)) (if z = 65 then wordAt ys 2 else a) (if z = 65 then true else h) := by
  rw [capP, if_neg hne, ← hz, hk, Int.toNat_natCast]
 by_cases bad : ys.length < 2 ∨ ys.length - 2 < k
 ·have hSt : S = true := by
   rw [hS, hS2]
   simp only [List.length_drop]
   by_cases q1 : ys.length < 2
   ·have : decide (ys.length - 1 < 1) = true := decide_eq_true (by omega)
    rw [this]; simp
   ·have : decide (ys.length - 2 < k) = true := decide_eq_true (by omega)
    rw [this]; simp
  have hn : R = none := by rw [hRy, hcap, if_pos (by rcases bad with h | h; exact .inl h; exact .inr (.inl h))]
  rw [hSt] at at4 r4
  have J4 : CapJ M p lo R 0 (.int .u32 a) (.bool h) M4 := ⟨_, true, a, h, rfl, rfl, r4, F4, by rw [List.length_drop, List.length_drop]; omega, fun x hx => hb2 x (List.mem_of_mem_drop hx), .inr ⟨rfl, rfl, hn⟩⟩
  by_cases c : z = 65
  ·have dc : decide (z = 65) = true := decide_eq_true c
   (repeat (first | refine st ?_ | refine σa ?_ | (refine σb ?_; simp (disch := omega) only [push_cast, ↓reduceIte, reduceCtorEq, ν1, ν2, ν3, ν4, ν5, ζ1, ζ2, ζ3, ζ4, ζ5, dc, at4.ld, Bool.not_true, Bool.not_false, buildE])))
   exact ⟨rfl, 0, hpos, J4⟩
  ·have dc : decide (z = 65) = false := decide_eq_false c
   (repeat (first | refine st ?_ | refine σa ?_ | (refine σb ?_; simp (disch := omega) only [push_cast, ↓reduceIte, reduceCtorEq, ν1, ν2, ν3, ν4, ν5, ζ1, ζ2, ζ3, ζ4, ζ5, dc, at4.ld, Bool.not_true, Bool.not_false, buildE])))
   exact ⟨rfl, 0, hpos, J4⟩
 have hSf : S = false := by
  rw [hS, hS2]
  simp only [List.length_drop]
  rw [decide_eq_false (by omega), decide_eq_false (by omega), decide_eq_false (by omega)]; rfl
 rw [hSf] at at4 r4
 rw [hdd] at r4
 have hcap2 : ∀ a' h', capP ys.length (ys.drop (2 + k)) a' h' = capP ((ys.drop (2 + k)).length + 1) (ys.drop (2 + k)) a' h' := fun a' h' => capP_fuel (by rw [List.length_drop]; omega) (by omega)
 have ld : (ys.drop (2 + k)).length < ys.length := by rw [List.length_drop]; omega
 have hb4 : ∀ x ∈ ys.drop (2 + k), 0 ≤ x ∧ x ≤ 255 := fun x hx => hyb x (List.mem_of_mem_drop hx)
 by_cases c : z = 65
 rotate_left
 ·have dc : decide (z = 65) = false := decide_eq_false c
  (repeat (first | refine st ?_ | refine σa ?_ | (refine σb ?_; simp (disch := omega) only [push_cast, ↓reduceIte, reduceCtorEq, ν1, ν2, ν3, ν4, ν5, ζ1, ζ2, ζ3, ζ4, ζ5, dc, at4.ld, Bool.not_true, Bool.not_false, buildE])))
  exact ⟨rfl, _, ld, ys.drop (2 + k), false, a, h, rfl, rfl, r4, F4, by omega, hb4, .inl ⟨rfl, rfl, by rw [hRy, hcap, if_neg (by omega), hcap2, if_neg c, if_neg c]⟩⟩
 have dc : decide (z = 65) = true := decide_eq_true c
 by_cases c4 : k = 4
 rotate_left
 ·have d4 : decide ((k : Int) = 4) = false := decide_eq_false (by omega)
  have hn : R = none := by rw [hRy, hcap, if_pos (.inr (.inr ⟨c, by omega⟩))]
  (repeat (first | refine st ?_ | refine σa ?_ | (refine σb ?_; simp (disch := omega) only [push_cast, ↓reduceIte, reduceCtorEq, ν1, ν2, ν3, ν4, ν5, ζ1, ζ2, ζ3, ζ4, ζ5, dc, d4, at4.ld, at4.get, at4.same, List.drop_nil, List.append_nil, Bool.not_true, Bool.not_false, boxE])))
  rw [hdd] at sl4
  have Fs := Fr.set M4 p (.box [v4, .bool true])
  have no4' : ∀ b ∈ blkOf v4, b ∉ [p] := fun b hb hc => no4 (by simp at hc; rw [← hc]; exact hb)
  exact ⟨rfl, 0, hpos, ys.drop (2 + k), true, a, h, rfl, rfl, ⟨v4, at4.set _, sl4.keep Fs no4', lo4, vl4⟩, (F4.trans Fs).cut (fun b hb _ => by simpa using hb), by omega, hb4, .inr ⟨rfl, rfl, hn⟩⟩
 ·have d4 : decide ((k : Int) = 4) = true := decide_eq_true (by omega)
  have ew : wordAt (takeL k (ys.drop 2)) 0 = wordAt ys 2 := by
   unfold takeL
   rw [if_neg (by rw [List.length_drop]; omega), c4]
   simp [wordAt, List.getD_eq_getElem?_getD, List.getElem?_take, List.getElem?_drop]
  (repeat (first | refine st ?_ | refine σa ?_ | (refine σb ?_; simp (disch := omega) only [push_cast, ↓reduceIte, reduceCtorEq, ν1, ν2, ν3, ν4, ν5, ζ1, ζ2, ζ3, ζ4, ζ5, dc, d4, at4.ld, Bool.not_true, Bool.not_false, buildE])))
  refine (quad_spec r _ M4 s4 (by rw [takeL_length]; omega) (takeL_byte hb2)).mono ?_
  rintro r M5 ⟨rfl, rfl⟩
  rw [ew]
  (repeat (first | refine st ?_ | refine σa ?_ | (refine σb ?_; simp (disch := omega) only [push_cast, ↓reduceIte, reduceCtorEq, ν1, ν2, ν3, ν4, ν5, ζ1, ζ2, ζ3, ζ4, ζ5])))
  exact ⟨rfl, _, ld, ys.drop (2 + k), false, wordAt ys 2, true, rfl, rfl, r4, F4, by omega, hb4, .inl ⟨rfl, rfl, by rw [hRy, hcap, if_neg (by omega), hcap2, if_pos c, if_pos c]⟩⟩
end Go.Proofs.Ytbdejnnbpdgjlaa.Ax
