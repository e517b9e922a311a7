/- Contracts of functions over the abstract machine. No conditions: lemmas alone. -/
import Derived.Test.YtbdejnnbpdgjlaaPfxKLibD
import Derived.Test.YtbdejnnbpdgjlaaPfxKP0
import Derived.Test.YtbdejnnbpdgjlaaPfxKP2
import Derived.Test.YtbdejnnbpdgjlaaPfxKP1
namespace Go.Proofs.Ytbdejnnbpdgjlaa.Ax
open Go Go.RowKit
open Nat renaming reduceAdd → ν1, reduceMul → ν2, reduceLeDiff → ν3, reduceLT → ν4, reduceSub → ν5
open Int renaming reduceNe → ζ1, reduceEq → ζ2, reduceLE → ζ3, reduceLT → ζ4, reduceToNat → ζ5
set_option linter.unusedVariables false
set_option linter.unusedSimpArgs false
set_option maxRecDepth 100000
set_option maxHeartbeats 20000000
attribute [local irreducible] thenA blockA scopeA retA AL AW AD ADL AH clrK CallA apure aload bload appK ptrK fnK ares szOk planOk okOps
def RG.zero : RG := ⟨(0, 0), 0, 0⟩
def meetX (x y : RG) : Option RG := if beginsP y.base.1 x.base ∧ max x.ge y.ge ≤ min x.le y.le then some ⟨y.base, max x.ge y.ge, min x.le y.le⟩ else none
def meetP (a b : RG) : Option RG := if rightR a ∧ rightR b then (if a.base.2 > b.base.2 then meetX b a else meetX a b) else none
theorem rgL_len (r : RG) : (rgL r).length = 4 := rfl
theorem rgL_drop (r : RG) : List.drop 4 (rgL r) = [] := rfl
theorem rgL_take (r : RG) : List.take 4 (rgL r) = rgL r := rfl
theorem rgL_one (r : RG) : (rgL r).all Value.oneCell' = true := rfl
theorem pfmeet_spec (a b : RG) (M : Mem) (ha : goodR a) (hb : goodR b) : CallA Try.prog 75 [.agg ⟨rgL a⟩, .agg ⟨rgL b⟩] M fun r M' => Fr M M' [] ∧ r = .tuple ⟨[.agg ⟨rgL ((meetP a b).getD RG.zero)⟩, .bool (meetP a b).isSome]⟩ := by
 have P0 := (Fr.push2 M (.box (rgL a)) (.box (rgL b))).tr (Fr.push _ (.box (rgL RG.zero)))
 have A0 := ((At.push M (.box (rgL a))).keep (Fr.push _ (.box (rgL b))) (by simp)).keep (Fr.push _ (.box (rgL RG.zero))) (by simp)
 have B0 := (At.push (M ++ [.box (rgL a)]) (.box (rgL b))).keep (Fr.push _ (.box (rgL RG.zero))) (by simp)
 have Z0 := At.push (M ++ [.box (rgL a)] ++ [.box (rgL b)]) (.box (rgL RG.zero))
 simp only [List.length_append, List.length_cons, List.length_nil, Nat.zero_add, Nat.add_assoc, Nat.reduceAdd] at B0 Z0
 unfold rgL RG.zero at P0 A0 B0 Z0
 dsimp only at P0 A0 B0 Z0
 obtain ⟨R, hR⟩ : ∃ R, R = meetP a b := ⟨_, rfl⟩
 rw [← hR]
 have fin : ∀ {M' : Mem} {o : Option RG}, Fr M M' [] → meetP a b = o → Fr M M' [] ∧ Value.tuple ⟨[.agg ⟨rgL (o.getD RG.zero)⟩, .bool o.isSome]⟩ = .tuple ⟨[.agg ⟨rgL (R.getD RG.zero)⟩, .bool R.isSome]⟩ := by
  intro M' o f h
  rw [hR, h]; exact ⟨f, rfl⟩
 generalize hW : (Value.tuple ⟨[.agg ⟨rgL (R.getD RG.zero)⟩, .bool R.isSome]⟩) = W at *
 unfold rgL
 (refine CallA.of_body Try.func75 rfl (by rfl) ?_; simp only [Try.ntmps75, List.length_cons, List.length_nil, List.replicate, List.cons_append, List.nil_append, Nat.reduceSub, Nat.reduceAdd])
 (repeat (first | refine st ?_ | refine σa ?_ | (refine σb ?_; simp (disch := omega) only [push_cast, ↓reduceIte, reduceCtorEq, ν1, ν2, ν3, ν4, ν5, ζ1, ζ2, ζ3, ζ4, ζ5, memE, boxE, buildE, lsE])))
 simp only [List.length_append, List.length_cons, List.length_nil, Nat.zero_add, Nat.add_assoc, Nat.reduceAdd]
 generalize M ++ [Blk.box [.int .u32 a.base.1, .int .i64 a.base.2, .int .i64 a.ge, .int .i64 a.le]] ++ [Blk.box [.int .u32 b.base.1, .int .i64 b.base.2, .int .i64 b.ge, .int .i64 b.le]] ++ [Blk.box [.int .u32 0, .int .i64 0, .int .i64 0, .int .i64 0]] = M0 at *
 obtain ⟨s, hs⟩ : ∃ s, s = M.length := ⟨_, rfl⟩
 rw [← hs] at A0 B0 Z0 ⊢
 refine (pfright_spec a M0 ha).mono ?_
 rintro v M1 ⟨F1, rfl⟩
 have A1 := A0.keep F1 (by simp)
 have B1 := B0.keep F1 (by simp)
 have Z1 := Z0.keep F1 (by simp)
 have F01 := P0.tr F1
 by_cases ra : rightR a
 rotate_left
 ·rw [decide_eq_false ra]
  (repeat (first | refine st ?_ | refine σa ?_ | (refine σb ?_; simp (disch := omega) only [push_cast, ↓reduceIte, reduceCtorEq, ν1, ν2, ν3, ν4, ν5, ζ1, ζ2, ζ3, ζ4, ζ5, Z1.get, Z1.same, Bool.not_true, Bool.not_false, List.drop_nil, List.append_nil, boxE, buildE, lsE])))
  ((first | refine retA.ret (by rfl) ?_ | refine retA.normal (by rfl) ?_); simp (disch := omega) only [push_cast, ↓reduceIte, reduceCtorEq, Nat.reduceAdd, Nat.reduceMul, Nat.reduceLeDiff, Nat.reduceLT, Nat.reduceSub, Int.reduceNe, Int.reduceEq, Int.reduceLE, Int.reduceLT, Int.reduceToNat, Z1.ld, buildE])
  exact fin (o := none) F01 (by unfold meetP; rw [if_neg (fun h => ra h.1)])
 rw [decide_eq_true ra]
 (repeat (first | refine st ?_ | refine σa ?_ | (refine σb ?_; simp (disch := omega) only [push_cast, ↓reduceIte, reduceCtorEq, ν1, ν2, ν3, ν4, ν5, ζ1, ζ2, ζ3, ζ4, ζ5, B1.ld, Bool.not_true, Bool.not_false, buildE, lsE])))
 refine (pfright_spec b M1 hb).mono ?_
 rintro v M2 ⟨F2, rfl⟩
 have A2 := A1.keep F2 (by simp)
 have B2 := B1.keep F2 (by simp)
 have Z2 := Z1.keep F2 (by simp)
 have F02 := F01.tr F2
 by_cases rb : rightR b
 rotate_left
 ·rw [decide_eq_false rb]
  (repeat (first | refine st ?_ | refine σa ?_ | (refine σb ?_; simp (disch := omega) only [push_cast, ↓reduceIte, reduceCtorEq, ν1, ν2, ν3, ν4, ν5, ζ1, ζ2, ζ3, ζ4, ζ5, Z2.get, Z2.same, Bool.not_true, Bool.not_false, List.drop_nil, List.append_nil, boxE, buildE, lsE])))
  ((first | refine retA.ret (by rfl) ?_ | refine retA.normal (by rfl) ?_); simp (disch := omega) only [push_cast, ↓reduceIte, reduceCtorEq, Nat.reduceAdd, Nat.reduceMul, Nat.reduceLeDiff, Nat.reduceLT, Nat.reduceSub, Int.reduceNe, Int.reduceEq, Int.reduceLE, Int.reduceLT, Int.reduceToNat, Z2.ld, buildE])
  exact fin (o := none) F02 (by unfold meetP; rw [if_neg (fun h => rb h.2)])
 rw [decide_eq_true rb]
 (repeat (first | refine st ?_ | refine σa ?_ | (refine σb ?_; simp (disch := omega) only [push_cast, ↓reduceIte, reduceCtorEq, ν1, ν2, ν3, ν4, ν5, ζ1, ζ2, ζ3, ζ4, ζ5, A2.ld, B2.ld, Bool.not_true, Bool.not_false, buildE, lsE])))
 obtain ⟨x, y, hxy, hmeet⟩ : ∃ x y : RG, ((a.base.2 > b.base.2 ∧ x = b ∧ y = a) ∨ (¬ a.base.2 > b.base.2 ∧ x = a ∧ y = b)) ∧ meetP a b = meetX x y := by
  by_cases c : a.base.2 > b.base.2
  ·exact ⟨b, a, .inl ⟨c, rfl, rfl⟩, by unfold meetP; rw [if_pos ⟨ra, rb⟩, if_pos c]⟩
  ·exact ⟨a, b, .inr ⟨c, rfl, rfl⟩, by unfold meetP; rw [if_pos ⟨ra, rb⟩, if_neg c]⟩
 refine AW.joinF [23, 24] (fun g M' => Fr M M' [] ∧ At M' s (.box (rgL x)) ∧ At M' (s + 1) (.box (rgL y)) ∧ At M' (s + 2) (.box (rgL RG.zero))) ?_ ?_
 ·have la := A2.lt
  have lb := B2.lt
  rcases hxy with ⟨c, rfl, rfl⟩ | ⟨c, rfl, rfl⟩
  ·have d : decide (y.base.2 > x.base.2) = true := decide_eq_true c
   have X1 := Fr.set M2 s (.box (rgL x))
   have A3 := A2.set (.box (rgL x))
   have B3 := B2.keep X1 (by simp)
   have Z3 := Z2.keep X1 (by simp)
   have X2 := Fr.set (M2.set s (.box (rgL x))) (s + 1) (.box (rgL y))
   have A4 := A3.keep X2 (by simp)
   have B4 := B3.set (.box (rgL y))
   have Z4 := Z3.keep X2 (by simp)
   unfold rgL at X1 A3 B3 Z3 X2 A4 B4 Z4
   (repeat (first | refine st ?_ | refine σa ?_ | (refine σb ?_; simp (disch := omega) only [push_cast, ↓reduceIte, reduceCtorEq, ν1, ν2, ν3, ν4, ν5, ζ1, ζ2, ζ3, ζ4, ζ5, d, A2.ld, A2.get, A2.same, B2.ld, B3.get, B3.same, List.drop_nil, List.append_nil, boxE, buildE, lsE])))
   exact ⟨rfl, ((F02.trans X1).trans X2).cut (fun c hc hlt => by simp at hc; omega), A4, B4, Z4⟩
  ·have d : decide (x.base.2 > y.base.2) = false := decide_eq_false c
   (repeat (first | refine st ?_ | refine σa ?_ | (refine σb ?_; simp (disch := omega) only [push_cast, ↓reduceIte, reduceCtorEq, ν1, ν2, ν3, ν4, ν5, ζ1, ζ2, ζ3, ζ4, ζ5, d, lsE])))
   exact ⟨rfl, F02, A2, B2, Z2⟩
 rintro g M3 ⟨F3, A3, B3, Z3⟩
 have gx : goodR x ∧ goodR y ∧ rightR x ∧ rightR y := by rcases hxy with ⟨_, rfl, rfl⟩ | ⟨_, rfl, rfl⟩; exact ⟨hb, ha, rb, ra⟩; exact ⟨ha, hb, ra, rb⟩
 obtain ⟨gx, gy, rx, ry⟩ := gx
 have hmx : (if y.ge > x.ge then y.ge else x.ge) = max x.ge y.ge := by split <;> omega
 have hmn : (if y.le < x.le then y.le else x.le) = min x.le y.le := by split <;> omega
 obtain ⟨Z, hZ⟩ : ∃ Z : RG, Z = ⟨y.base, max x.ge y.ge, min x.le y.le⟩ := ⟨_, rfl⟩
 unfold rgL at A3 B3 Z3
 unfold RG.zero at Z3
 dsimp only at Z3
 simp (disch := omega) only [push_cast, ↓reduceIte, reduceCtorEq, Nat.reduceAdd, Nat.reduceMul, Nat.reduceLeDiff, Nat.reduceLT, Nat.reduceSub, Int.reduceNe, Int.reduceEq, Int.reduceLE, Int.reduceLT, Int.reduceToNat]
 (repeat (first | refine st ?_ | refine σa ?_ | (refine σb ?_; simp (disch := omega) only [push_cast, ↓reduceIte, reduceCtorEq, ν1, ν2, ν3, ν4, ν5, ζ1, ζ2, ζ3, ζ4, ζ5, A3.ld, B3.ld, hmx, hmn, List.drop_nil, List.append_nil, memE, boxE, boxE, buildE, lsE])))
 have P4 := Fr.push M3 (.box [.int .u32 y.base.1, .int .i64 y.base.2, .int .i64 (max x.ge y.ge), .int .i64 (min x.le y.le)])
 have C4 := At.push M3 (.box [.int .u32 y.base.1, .int .i64 y.base.2, .int .i64 (max x.ge y.ge), .int .i64 (min x.le y.le)])
 have A4 := A3.keep P4 (by simp)
 have B4 := B3.keep P4 (by simp)
 have Z4 := Z3.keep P4 (by simp)
 have F4 := F3.tr P4
 obtain ⟨c, hc⟩ : ∃ c, c = M3.length := ⟨_, rfl⟩
 rw [← hc] at C4 ⊢
 generalize M3 ++ [Blk.box [.int .u32 y.base.1, .int .i64 y.base.2, .int .i64 (max x.ge y.ge), .int .i64 (min x.le y.le)]] = M4 at *
 simp (disch := omega) only [push_cast, ↓reduceIte, reduceCtorEq, Nat.reduceAdd, Nat.reduceMul, Nat.reduceLeDiff, Nat.reduceLT, Nat.reduceSub, Int.reduceNe, Int.reduceEq, Int.reduceLE, Int.reduceLT, Int.reduceToNat, B4.ld, buildE]
 (repeat (first | refine st ?_ | refine σa ?_ | (refine σb ?_; simp (disch := omega) only [push_cast, ↓reduceIte, reduceCtorEq, ν1, ν2, ν3, ν4, ν5, ζ1, ζ2, ζ3, ζ4, ζ5, A4.ld, B4.ld, buildE, lsE])))
 have hl := rightX_len rx.1
 refine (pbegins_spec y.base.1 x.base M4 gy gx hl.1 hl.2).mono ?_
 rintro v M5 ⟨F5, rfl⟩
 have A5 := A4.keep F5 (by simp)
 have C5 := C4.keep F5 (by simp)
 have Z5 := Z4.keep F5 (by simp)
 have F05 := F4.tr F5
 by_cases cb : beginsP y.base.1 x.base
 rotate_left
 ·rw [decide_eq_false cb]
  (repeat (first | refine st ?_ | refine σa ?_ | (refine σb ?_; simp (disch := omega) only [push_cast, ↓reduceIte, reduceCtorEq, ν1, ν2, ν3, ν4, ν5, ζ1, ζ2, ζ3, ζ4, ζ5, Z5.get, Z5.same, Bool.not_true, Bool.not_false, List.drop_nil, List.append_nil, boxE, buildE, lsE])))
  ((first | refine retA.ret (by rfl) ?_ | refine retA.normal (by rfl) ?_); simp (disch := omega) only [push_cast, ↓reduceIte, reduceCtorEq, Nat.reduceAdd, Nat.reduceMul, Nat.reduceLeDiff, Nat.reduceLT, Nat.reduceSub, Int.reduceNe, Int.reduceEq, Int.reduceLE, Int.reduceLT, Int.reduceToNat, Z5.ld, buildE])
  exact fin (o := none) F05 (by rw [hmeet]; unfold meetX; rw [if_neg (fun h => cb h.1)])
 rw [decide_eq_true cb]
 by_cases cg : max x.ge y.ge > min x.le y.le
 ·have d : decide (max x.ge y.ge > min x.le y.le) = true := decide_eq_true cg
  (repeat (first | refine st ?_ | refine σa ?_ | (refine σb ?_; simp (disch := omega) only [push_cast, ↓reduceIte, reduceCtorEq, ν1, ν2, ν3, ν4, ν5, ζ1, ζ2, ζ3, ζ4, ζ5, d, C5.ld, Z5.get, Z5.same, Bool.not_true, Bool.not_false, List.drop_nil, List.append_nil, boxE, buildE, lsE])))
  ((first | refine retA.ret (by rfl) ?_ | refine retA.normal (by rfl) ?_); simp (disch := omega) only [push_cast, ↓reduceIte, reduceCtorEq, Nat.reduceAdd, Nat.reduceMul, Nat.reduceLeDiff, Nat.reduceLT, Nat.reduceSub, Int.reduceNe, Int.reduceEq, Int.reduceLE, Int.reduceLT, Int.reduceToNat, Z5.ld, buildE])
  exact fin (o := none) F05 (by rw [hmeet]; unfold meetX; rw [if_neg (fun h => absurd h.2 (by omega))])
 have d : decide (max x.ge y.ge > min x.le y.le) = false := decide_eq_false cg
 have Fs := Fr.set M5 (s + 2) (.box [.int .u32 y.base.1, .int .i64 y.base.2, .int .i64 (max x.ge y.ge), .int .i64 (min x.le y.le)])
 have Zs := Z5.set (.box [.int .u32 y.base.1, .int .i64 y.base.2, .int .i64 (max x.ge y.ge), .int .i64 (min x.le y.le)])
 (repeat (first | refine st ?_ | refine σa ?_ | (refine σb ?_; simp (disch := omega) only [push_cast, ↓reduceIte, reduceCtorEq, ν1, ν2, ν3, ν4, ν5, ζ1, ζ2, ζ3, ζ4, ζ5, d, C5.ld, Z5.get, Z5.same, Bool.not_true, Bool.not_false, List.drop_nil, List.append_nil, boxE, buildE, lsE])))
 ((first | refine retA.ret (by rfl) ?_ | refine retA.normal (by rfl) ?_); simp (disch := omega) only [push_cast, ↓reduceIte, reduceCtorEq, Nat.reduceAdd, Nat.reduceMul, Nat.reduceLeDiff, Nat.reduceLT, Nat.reduceSub, Int.reduceNe, Int.reduceEq, Int.reduceLE, Int.reduceLT, Int.reduceToNat, Zs.ld, buildE])
 exact fin (o := some ⟨y.base, max x.ge y.ge, min x.le y.le⟩) ((F05.trans Fs).cut (fun c hc hlt => by simp at hc; omega)) (by rw [hmeet]; unfold meetX; rw [if_pos ⟨cb, by omega⟩])
theorem d42_Kp4 {g n : Prop} (k : n) (h : n → g := by first | exact AW.dr (id := 12) (by rfl) [0, 1, 2, 3, 4, 5, 6, 7, 8, 9, 11, 12, 13, 14, 10, 15] (by kernel_rfl) (by kernel_rfl)) : g := h k
theorem a42_Kp4 {g n : Prop} (k : n) (h : n → g := by first | exact AH.ca (dst := some 54) rfl | exact AH.caN (dst := some 59) rfl (by kernel_rfl)) : g := h k
def putR (p : PX) (ge le : Int) : List RG := if ge ≤ le then [⟨p, ge, le⟩] else []
def turnB (x n : Int) : Int := ((x.toNat ^^^ 2 ^ (32 - n).toNat : Nat) : Int)
def bitsR (m : RG) (n0 : Int) (k : Nat) : List RG := (List.range k).flatMap fun (i : Nat) => putR (maskP (turnB m.base.1 (n0 + 1 + (i : Int)), n0 + 1 + (i : Int))) m.ge m.le
def minusP (a b : RG) : List RG := if rightR a then (match meetP a b with
 | none => [a]
 | some m => putR a.base a.ge (m.ge - 1) ++ bitsR m a.base.2 (m.base.2 - a.base.2).toNat ++ putR a.base (m.le + 1) a.le) else []
theorem rgs_one4 (r : RG) : rgs [r] = rgL r := by show rgL r ++ [] = _; rw [List.append_nil]
theorem pfput_spec (p : PX) (ge le : Int) (s : Nat) (v : Value) (out : List RG) (M : Mem) (hA : At M s (.box [v])) (hO : Own M v 4 (rgs out)) (hs : s ∉ blkOf v) (hl : out.length ≤ 1000000) :
  CallA Try.prog 76 [.agg ⟨[.int .u32 p.1, .int .i64 p.2]⟩, .int .i64 ge, .int .i64 le, .pointer (some ⟨s, 0, none⟩)] M fun r M' => r = .tuple ⟨[]⟩ ∧ ∃ v', At M' s (.box [v']) ∧ Own M' v' 4 (rgs (out ++ putR p ge le)) ∧ Fr M M' (s :: blkOf v) ∧ ∀ b ∈ blkOf v', b ∈ blkOf v ∨ M.length ≤ b := by
 have P0 := Fr.push M (.box [.int .u32 p.1, .int .i64 p.2])
 have A0 := hA.keep P0 (by simp)
 have O0 := hO.keep P0 (by simp)
 have c0 := isSl_cl hO.sl.isSl
 have s0 := hO.sl.isSl
 (refine CallA.of_body Try.func76 rfl (by rfl) ?_; simp only [Try.ntmps76, List.length_cons, List.length_nil, List.replicate, List.cons_append, List.nil_append, Nat.reduceSub, Nat.reduceAdd])
 by_cases c : ge ≤ le
 rotate_left
 ·have d : decide (ge ≤ le) = false := decide_eq_false c
  (repeat (first | refine st ?_ | refine σa ?_ | (refine σb ?_; simp (disch := omega) only [push_cast, ↓reduceIte, reduceCtorEq, ν1, ν2, ν3, ν4, ν5, ζ1, ζ2, ζ3, ζ4, ζ5, d, lsE])))
  ((first | refine retA.ret (by rfl) ?_ | refine retA.normal (by rfl) ?_); simp (disch := omega) only [push_cast, ↓reduceIte, reduceCtorEq, Nat.reduceAdd, Nat.reduceMul, Nat.reduceLeDiff, Nat.reduceLT, Nat.reduceSub, Int.reduceNe, Int.reduceEq, Int.reduceLE, Int.reduceLT, Int.reduceToNat])
  exact ⟨v, A0, by unfold putR; rw [if_neg c, List.append_nil]; exact O0, ⟨P0.1, fun b hb _ => P0.2 b hb (by simp)⟩, fun b hb => .inl hb⟩
 have d : decide (ge ≤ le) = true := decide_eq_true c
 (repeat (first | refine st ?_ | refine σa ?_ | (refine σb ?_; simp (disch := omega) only [push_cast, ↓reduceIte, reduceCtorEq, ν1, ν2, ν3, ν4, ν5, ζ1, ζ2, ζ3, ζ4, ζ5, d, A0.ld, c0, s0, memE, boxE, buildE, lsE])))
 obtain ⟨M0, hM0⟩ : ∃ M0, M0 = M ++ [Blk.box [.int .u32 p.1, .int .i64 p.2]] := ⟨_, rfl⟩
 rw [← hM0] at P0 A0 O0 ⊢
 have hr := New.row M0 (s := 4) (n := 1) (cs := rgL ⟨p, ge, le⟩) (by omega) rfl rfl (by decide)
 have P1 := Fr.push M0 (.row true 4 (rgL ⟨p, ge, le⟩))
 have A1 := A0.keep P1 (by simp)
 refine appK.elems (P := Try.prog) (e := 36) (s := 4) (bt := 32) (z := [.int .u32 0, .int .i64 0, .int .i64 0, .int .i64 0]) (by kernel_rfl) (by kernel_rfl) (by kernel_rfl) rfl (by kernel_rfl) (by decide) (O0.keep P1 (by simp)) hr.sl (by rw [rgs_length]; show (out.length * 4 + 4) * _ ≤ _; omega) ?_
 intro v' M2 hN hF
 have A2 := A1.keep hF hs
 have c2 := isSl_cl hN.1.sl.isSl
 have o2 := isSl_one hN.1.sl.isSl
 simp only [Value.oneCell'] at o2
 have Fs := Fr.set M2 s (.box [v'])
 have As := A2.set (.box [v'])
 have nb : ∀ b ∈ blkOf v', M0.length ≤ b := fun b hb => Nat.le_trans P1.1 (hN.blk b hb)
 have ls := hA.lt
 have l0 := P0.1
 (repeat (first | refine st ?_ | refine σa ?_ | (refine σb ?_; simp (disch := omega) only [push_cast, ↓reduceIte, reduceCtorEq, ν1, ν2, ν3, ν4, ν5, ζ1, ζ2, ζ3, ζ4, ζ5, A2.get, A2.same, c2, o2, List.drop_nil, List.append_nil, boxE, buildE, lsE])))
 ((first | refine retA.ret (by rfl) ?_ | refine retA.normal (by rfl) ?_); simp (disch := omega) only [push_cast, ↓reduceIte, reduceCtorEq, Nat.reduceAdd, Nat.reduceMul, Nat.reduceLeDiff, Nat.reduceLT, Nat.reduceSub, Int.reduceNe, Int.reduceEq, Int.reduceLE, Int.reduceLT, Int.reduceToNat])
 refine ⟨v', As, ?_, ?_, fun b hb => .inr (by have := nb b hb; omega)⟩
 ·have e : rgs out ++ rgL ⟨p, ge, le⟩ = rgs (out ++ putR p ge le) := by unfold putR; rw [if_pos c, rgs_append, rgs_one4]
  rw [← e]
  exact hN.1.keep Fs (fun b hb hx => by have := nb b hb; simp at hx; omega)
 ·exact (((P0.tr P1).trans hF).trans Fs).cut (fun x hx hlt => by simp at hx ⊢; rcases hx with h | h; exact .inr h; exact .inl h)
theorem goodR_meet {a b m : RG} (ha : goodR a) (hb : goodR b) (h : meetP a b = some m) : goodR m ∧ rightR a ∧ 0 ≤ m.base.2 ∧ m.base.2 ≤ 32 ∧ 0 ≤ m.ge ∧ m.ge ≤ 32 ∧ 0 ≤ m.le ∧ m.le ≤ 32 ∧ a.base.2 ≤ m.base.2 := by
 unfold meetP at h
 split at h
 ·rename_i hr
  obtain ⟨ra, rb⟩ := hr
  have la := rightX_len ra.1
  have lb := rightX_len rb.1
  have a1 := ra.2
  have b1 := rb.2
  split at h
  ·unfold meetX at h
   split at h
   ·cases h
    exact ⟨ha, ra, by show 0 ≤ a.base.2; omega, by show a.base.2 ≤ 32; omega, by show 0 ≤ max b.ge a.ge; omega, by show max b.ge a.ge ≤ 32; omega, by show 0 ≤ min b.le a.le; omega, by show min b.le a.le ≤ 32; omega, by show a.base.2 ≤ a.base.2; omega⟩
   ·cases h
  ·unfold meetX at h
   split at h
   ·cases h
    exact ⟨hb, ra, by show 0 ≤ b.base.2; omega, by show b.base.2 ≤ 32; omega, by show 0 ≤ max a.ge b.ge; omega, by show max a.ge b.ge ≤ 32; omega, by show 0 ≤ min a.le b.le; omega, by show min a.le b.le ≤ 32; omega, by show a.base.2 ≤ b.base.2; omega⟩
   ·cases h
 ·cases h
structure MinJ (M M' : Mem) (s c d : Nat) (a m : RG) (v : Value) (out : List RG) : Prop where
 A : At M' s (.box (rgL a))
 C : At M' c (.box (rgL m))
 D : At M' d (.box [v])
 O : Own M' v 4 (rgs out)
 b : ∀ x ∈ blkOf v, d < x ∧ M.length ≤ x
 f : Fr M M' []
theorem MinJ.keep {M M' M'' : Mem} {s c d : Nat} {a m : RG} {v : Value} {out : List RG} (h : MinJ M M' s c d a m v out) (f : Fr M' M'' []) : MinJ M M'' s c d a m v out :=
 ⟨h.A.keep f (by simp), h.C.keep f (by simp), h.D.keep f (by simp), h.O.keep f (by simp), h.b, h.f.tr f⟩
theorem MinJ.put {M M' M'' : Mem} {s c d : Nat} {a m : RG} {v v' : Value} {out out' : List RG} (h : MinJ M M' s c d a m v out) (h1 : s < d) (h2 : c < d) (h3 : M.length ≤ d) (hD : At M'' d (.box [v'])) (hO : Own M'' v' 4 (rgs out')) (f : Fr M' M'' (d :: blkOf v)) (hb : ∀ b ∈ blkOf v', b ∈ blkOf v ∨ M'.length ≤ b) : MinJ M M'' s c d a m v' out' := by
 have ld := h.D.lt
 have lf := h.f.1
 refine ⟨h.A.keep f ?_, h.C.keep f ?_, hD, hO, fun x hx => (hb x hx).elim (h.b x) fun e => ⟨by omega, by omega⟩, (h.f.trans f).cut fun x hx hlt => ?_⟩
 ·intro hx
  rcases List.mem_cons.1 hx with e | e
  ·omega
  ·have := (h.b s e).1; omega
 ·intro hx
  rcases List.mem_cons.1 hx with e | e
  ·omega
  ·have := (h.b c e).1; omega
 ·simp at hx
  rcases hx with e | e
  ·omega
  ·have := (h.b x e).2; omega
theorem putR_len (p : PX) (x y : Int) : (putR p x y).length ≤ 1 := by unfold putR; split <;> simp
theorem bitsR_succ (m : RG) (n0 : Int) (k : Nat) : bitsR m n0 (k + 1) = bitsR m n0 k ++ putR (maskP (turnB m.base.1 (n0 + 1 + (k : Int)), n0 + 1 + (k : Int))) m.ge m.le := by
 unfold bitsR
 rw [List.range_succ, List.flatMap_append, List.flatMap_cons, List.flatMap_nil, List.append_nil]
theorem bitsR_len (m : RG) (n0 : Int) : ∀ k, (bitsR m n0 k).length ≤ k
 | 0 => Nat.le_refl _
 | k + 1 => by
  have h1 := bitsR_len m n0 k
  have h2 := putR_len (maskP (turnB m.base.1 (n0 + 1 + (k : Int)), n0 + 1 + (k : Int))) m.ge m.le
  rw [bitsR_succ, List.length_append]; omega
theorem pfminus_spec (a b : RG) (M : Mem) (ha : goodR a) (hb : goodR b) : CallA Try.prog 42 [.agg ⟨rgL a⟩, .agg ⟨rgL b⟩] M fun r M' => Fr M M' [] ∧ New M M' r 4 (rgs (minusP a b)) := by
 have P0 := Fr.push2 M (.box (rgL a)) (.box (rgL b))
 have A0 := (At.push M (.box (rgL a))).keep (Fr.push _ (.box (rgL b))) (by simp)
 have B0 := At.push (M ++ [.box (rgL a)]) (.box (rgL b))
 rw [List.length_append, List.length_singleton] at B0
 (refine CallA.of_body Try.func42 rfl (by rfl) ?_; simp only [Try.ntmps42, List.length_cons, List.length_nil, List.replicate, List.cons_append, List.nil_append, Nat.reduceSub, Nat.reduceAdd])
 (repeat (first | refine st ?_ | refine σa ?_ | refine d42_Kp4 ?_ | ((first | refine a42_Kp4 ?_ | refine σb ?_ | refine σc ?_); simp (disch := omega) only [push_cast, ↓reduceIte, reduceCtorEq, ν1, ν2, ν3, ν4, ν5, ζ1, ζ2, ζ3, ζ4, ζ5, A0.ld, rgL_ld, memE, boxE, buildE, lsE])))
 simp only [List.length_append, List.length_cons, List.length_nil, Nat.zero_add]
 obtain ⟨s, hs⟩ : ∃ s, s = M.length := ⟨_, rfl⟩
 rw [← hs] at A0 B0 ⊢
 refine (pfright_spec a _ ha).mono ?_
 rintro v M1 ⟨F1, rfl⟩
 have A1 := A0.keep F1 (by simp)
 have B1 := B0.keep F1 (by simp)
 have F01 := P0.tr F1
 by_cases ra : rightR a
 rotate_left
 ·rw [decide_eq_false ra]
  (repeat (first | refine st ?_ | refine σa ?_ | refine d42_Kp4 ?_ | ((first | refine a42_Kp4 ?_ | refine σb ?_ | refine σc ?_); simp (disch := omega) only [push_cast, ↓reduceIte, reduceCtorEq, ν1, ν2, ν3, ν4, ν5, ζ1, ζ2, ζ3, ζ4, ζ5, Bool.not_true, Bool.not_false, lsE])))
  ((first | refine retA.ret (by rfl) ?_ | refine retA.normal (by rfl) ?_); simp (disch := omega) only [push_cast, ↓reduceIte, reduceCtorEq, Nat.reduceAdd, Nat.reduceMul, Nat.reduceLeDiff, Nat.reduceLT, Nat.reduceSub, Int.reduceNe, Int.reduceEq, Int.reduceLE, Int.reduceLT, Int.reduceToNat])
  exact ⟨F01, by unfold minusP; rw [if_neg ra]; exact (New.nil M (by omega)).keep F01 (by simp)⟩
 rw [decide_eq_true ra]
 (repeat (first | refine st ?_ | refine σa ?_ | refine d42_Kp4 ?_ | ((first | refine a42_Kp4 ?_ | refine σb ?_ | refine σc ?_); simp (disch := omega) only [push_cast, ↓reduceIte, reduceCtorEq, ν1, ν2, ν3, ν4, ν5, ζ1, ζ2, ζ3, ζ4, ζ5, A1.ld, B1.ld, rgL_ld, Bool.not_true, Bool.not_false, buildE, lsE])))
 refine (pfmeet_spec a b M1 ha hb).mono ?_
 rintro v M2 ⟨F2, rfl⟩
 have A2 := A1.keep F2 (by simp)
 have F02 := F01.tr F2
 have l2 := A2.lt
 cases ho : meetP a b with
 | none =>
  have eo : minusP a b = [a] := by unfold minusP; rw [if_pos ra, ho]
  have P3 := Fr.push M2 (.box (rgL RG.zero))
  have A3 := A2.keep P3 (by simp)
  have hr := New.row (M2 ++ [.box (rgL RG.zero)]) (s := 4) (n := 1) (cs := rgL a) (by omega) rfl rfl (by decide)
  have P4 := Fr.push (M2 ++ [.box (rgL RG.zero)]) (.row true 4 (rgL a))
  (repeat (first | refine st ?_ | refine σa ?_ | refine d42_Kp4 ?_ | ((first | refine a42_Kp4 ?_ | refine σb ?_ | refine σc ?_); simp (disch := omega) only [push_cast, ↓reduceIte, reduceCtorEq, ν1, ν2, ν3, ν4, ν5, ζ1, ζ2, ζ3, ζ4, ζ5, rgL_len, rgL_drop, rgL_one, A3.ld, rgL_ld, Option.getD_none, Option.isSome_none, Bool.not_true, Bool.not_false, List.drop_nil, List.append_nil, memE, boxE, boxE, buildE, lsE])))
  ((first | refine retA.ret (by rfl) ?_ | refine retA.normal (by rfl) ?_); simp (disch := omega) only [push_cast, ↓reduceIte, reduceCtorEq, Nat.reduceAdd, Nat.reduceMul, Nat.reduceLeDiff, Nat.reduceLT, Nat.reduceSub, Int.reduceNe, Int.reduceEq, Int.reduceLE, Int.reduceLT, Int.reduceToNat])
  rw [eo, rgs_one4]
  exact ⟨(F02.tr P3).tr P4, hr.after (F02.tr P3)⟩
 | some m =>
  obtain ⟨gm, _, g1, g2, g3, g4, g5, g6, g7⟩ := goodR_meet ha hb ho
  have P3 := Fr.push2 M2 (.box (rgL m)) (.box [.slice none 0 0])
  have A3 := A2.keep P3 (by simp)
  have C3 := (At.push M2 (.box (rgL m))).keep (Fr.push _ (.box [.slice none 0 0])) (by simp)
  have D3 := At.push (M2 ++ [.box (rgL m)]) (.box [.slice none 0 0])
  rw [List.length_append, List.length_singleton] at D3
  have w1 : IntKind.i64.wrap (m.ge - 1) = m.ge - 1 := w_i64 (by omega) (by omega)
  (repeat (first | refine st ?_ | refine σa ?_ | (refine σb ?_; simp (disch := omega) only [push_cast, ↓reduceIte, reduceCtorEq, ν1, ν2, ν3, ν4, ν5, ζ1, ζ2, ζ3, ζ4, ζ5, rgL_len, rgL_drop, rgL_one, A3.ld, C3.ld, rgL_ld, w1, Option.getD_some, Option.isSome_some, Bool.not_true, Bool.not_false, List.drop_nil, List.append_nil, memE, boxE, boxE, buildE, lsE])))
  have eo : minusP a b = putR a.base a.ge (m.ge - 1) ++ bitsR m a.base.2 (m.base.2 - a.base.2).toNat ++ putR a.base (m.le + 1) a.le := by unfold minusP; rw [if_pos ra, ho]
  simp only [List.length_append, List.length_cons, List.length_nil, Nat.zero_add]
  obtain ⟨c, hc⟩ : ∃ c, c = M2.length := ⟨_, rfl⟩
  rw [← hc] at C3 D3 ⊢
  have l0M : M.length ≤ s := by omega
  have J3 : MinJ M (M2 ++ [.box (rgL m)] ++ [.box [.slice none 0 0]]) s c (c + 1) a m (.slice none 0 0) [] := ⟨A3, C3, D3, Own.nil _ (by omega), by simp [blkOf], F02.tr P3⟩
  have hsd : s < c + 1 := by omega
  have hcd : c < c + 1 := by omega
  generalize M2 ++ [Blk.box (rgL m)] ++ [Blk.box [.slice none 0 0]] = M3 at *
  have hMd : M.length ≤ c + 1 := by omega
  have la := rightX_len ra.1
  refine (pfput_spec a.base a.ge (m.ge - 1) (c + 1) (.slice none 0 0) [] M3 J3.D J3.O (by simp [blkOf]) (by simp)).mono ?_
  rintro r M4 ⟨rfl, v4, D4, O4, F4, b4⟩
  have J4 := J3.put hsd hcd hMd D4 O4 F4 b4
  rw [List.nil_append] at J4
  obtain ⟨acc, hacc⟩ : ∃ acc, acc = putR a.base a.ge (m.ge - 1) := ⟨_, rfl⟩
  have hal : acc.length ≤ 1 := by rw [hacc]; exact putR_len _ _ _
  rw [← hacc] at J4 eo
  have w2 : IntKind.i64.wrap (a.base.2 + 1) = a.base.2 + 1 := w_i64 (by omega) (by omega)
  obtain ⟨L, hL⟩ : ∃ L : Nat, L = (m.base.2 - a.base.2).toNat := ⟨_, rfl⟩
  rw [← hL] at eo
  (repeat (first | refine st ?_ | refine σa ?_ | refine d42_Kp4 ?_ | ((first | refine a42_Kp4 ?_ | refine σb ?_ | refine σc ?_); simp (disch := omega) only [push_cast, ↓reduceIte, reduceCtorEq, ν1, ν2, ν3, ν4, ν5, ζ1, ζ2, ζ3, ζ4, ζ5, J4.A.ld, rgL_ld, w2, buildE, lsE])))
  refine AW.loopF [9, 37, 38, 39, 40, 41, 42, 43, 44, 45, 46, 47, 48, 49, 50, 51, 52, 53, 54, 55, 56, 57, 58, 59] (fun n g M' => ∃ i : Nat, g 9 = .int .i64 (a.base.2 + 1 + (i : Int)) ∧ n = L - i ∧ i ≤ L ∧ ∃ v, MinJ M M' s c (c + 1) a m v (acc ++ bitsR m a.base.2 i)) L ?_ ?_
  ·exact ⟨0, by push_cast; rw [Int.add_zero], by omega, by omega, v4, by simpa [bitsR] using J4⟩
  rintro n g M5 ⟨i, h9, rfl, hi, v, J⟩
  simp (disch := omega) only [push_cast, ↓reduceIte, reduceCtorEq, Nat.reduceAdd, Nat.reduceMul, Nat.reduceLeDiff, Nat.reduceLT, Nat.reduceSub, Int.reduceNe, Int.reduceEq, Int.reduceLE, Int.reduceLT, Int.reduceToNat, h9]
  have hil := bitsR_len m a.base.2 i
  by_cases ci : i < L
  rotate_left
  ·have d : decide (a.base.2 + 1 + (i : Int) ≤ m.base.2) = false := decide_eq_false (by omega)
   obtain rfl : i = L := by omega
   have w3 : IntKind.i64.wrap (m.le + 1) = m.le + 1 := w_i64 (by omega) (by omega)
   (repeat (first | refine st ?_ | refine σa ?_ | refine d42_Kp4 ?_ | ((first | refine a42_Kp4 ?_ | refine σb ?_ | refine σc ?_); simp (disch := omega) only [push_cast, ↓reduceIte, reduceCtorEq, ν1, ν2, ν3, ν4, ν5, ζ1, ζ2, ζ3, ζ4, ζ5, d, J.C.ld, J.A.ld, rgL_ld, w3, buildE, lsE])))
   refine (pfput_spec a.base (m.le + 1) a.le (c + 1) v _ M5 J.D J.O (fun hx => by have := (J.b _ hx).1; omega) (by rw [List.length_append]; omega)).mono ?_
   rintro r M6 ⟨rfl, v6, D6, O6, F6, b6⟩
   have J6 := J.put hsd hcd hMd D6 O6 F6 b6
   have s6 := O6.sl.isSl
   (repeat (first | refine st ?_ | refine σa ?_ | refine d42_Kp4 ?_ | ((first | refine a42_Kp4 ?_ | refine σb ?_ | refine σc ?_); simp (disch := omega) only [push_cast, ↓reduceIte, reduceCtorEq, ν1, ν2, ν3, ν4, ν5, ζ1, ζ2, ζ3, ζ4, ζ5, D6.ld, buildE, lsE])))
   ((first | refine retA.ret (by rfl) ?_ | refine retA.normal (by rfl) ?_); simp (disch := omega) only [push_cast, ↓reduceIte, reduceCtorEq, Nat.reduceAdd, Nat.reduceMul, Nat.reduceLeDiff, Nat.reduceLT, Nat.reduceSub, Int.reduceNe, Int.reduceEq, Int.reduceLE, Int.reduceLT, Int.reduceToNat])
   rw [eo]
   exact ⟨J6.f, J6.O, fun x n c' e hc' => (J6.b x.block (by rw [e]; simp [blkOf, hc'])).2⟩
  have d : decide (a.base.2 + 1 + (i : Int) ≤ m.base.2) = true := decide_eq_true (by omega)
  obtain ⟨k, hk⟩ : ∃ k : Nat, k = (32 - (a.base.2 + 1 + (i : Int))).toNat := ⟨_, rfl⟩
  have w3 : IntKind.i64.wrap (32 - (a.base.2 + 1 + (i : Int))) = (k : Int) := by rw [w_i64 (by omega) (by omega)]; omega
  have hk31 : k ≤ 31 := by omega
  have hm : min k IntKind.u32.bits = k := Nat.min_eq_left (by show k ≤ 32; omega)
  have hpk : (2 : Nat) ^ k ≤ 2 ^ 31 := Nat.pow_le_pow_right (by omega) hk31
  have hpi : ((2 ^ k : Nat) : Int) = (2 : Int) ^ k := by push_cast; rfl
  have hp0 := pow_pos32 k
  have hw : IntKind.u32.wrap (1 * (2 : Int) ^ k) = (2 : Int) ^ k := by rw [Int.one_mul]; exact w_u32 (by omega) (by omega)
  obtain ⟨T, hT⟩ : ∃ T, T = turnB m.base.1 (a.base.2 + 1 + (i : Int)) := ⟨_, rfl⟩
  have hx : bits .u32 (BitVec.ofInt IntKind.u32.bits m.base.1 ^^^ BitVec.ofInt IntKind.u32.bits ((2 : Int) ^ k)) = .int .u32 T := by
   rw [xor32 gm (by omega), hT]
   unfold turnB
   rw [← hk, ← hpi, Int.toNat_natCast]
  have hT0 : 0 ≤ T ∧ T ≤ 4294967295 := by
   rw [hT]
   unfold turnB
   rw [← hk]
   have h1 : m.base.1.toNat < 2 ^ 32 := by have := gm.2; omega
   have : m.base.1.toNat ^^^ 2 ^ k < 2 ^ 32 := Nat.xor_lt_two_pow h1 (by omega)
   omega
  (repeat (first | refine st ?_ | refine σa ?_ | refine d42_Kp4 ?_ | ((first | refine a42_Kp4 ?_ | refine σb ?_ | refine σc ?_); simp (disch := omega) only [push_cast, ↓reduceIte, reduceCtorEq, ν1, ν2, ν3, ν4, ν5, ζ1, ζ2, ζ3, ζ4, ζ5, d, J.C.ld, J.A.ld, rgL_ld, w3, Int.toNat_natCast, hm, hw, hx, buildE, lsE])))
  refine (gmask_spec (T, a.base.2 + 1 + (i : Int)) M5 hT0).mono ?_
  rintro r M6 ⟨F6, rfl⟩
  have J6 := J.keep F6
  refine ⟨F6, ?_⟩
  obtain ⟨q, hq⟩ : ∃ q : PX, q = maskP (T, a.base.2 + 1 + (i : Int)) := ⟨_, rfl⟩
  rw [← hq]
  have wn : IntKind.i64.wrap (a.base.2 + 1 + (i : Int) + 1) = a.base.2 + 1 + ((i + 1 : Nat) : Int) := by rw [w_i64 (by omega) (by omega)]; omega
  (repeat (first | refine st ?_ | refine σa ?_ | refine d42_Kp4 ?_ | ((first | refine a42_Kp4 ?_ | refine σb ?_ | refine σc ?_); simp (disch := omega) only [push_cast, ↓reduceIte, reduceCtorEq, ν1, ν2, ν3, ν4, ν5, ζ1, ζ2, ζ3, ζ4, ζ5, lsE])))
  refine (pfput_spec q m.ge m.le (c + 1) v _ M6 J6.D J6.O (fun hx => by have := (J6.b _ hx).1; omega) (by rw [List.length_append]; omega)).mono ?_
  rintro r M7 ⟨rfl, v7, D7, O7, F7, b7⟩
  have J7 := J6.put hsd hcd hMd D7 O7 F7 b7
  (repeat (first | refine st ?_ | refine σa ?_ | refine d42_Kp4 ?_ | ((first | refine a42_Kp4 ?_ | refine σb ?_ | refine σc ?_); simp (disch := omega) only [push_cast, ↓reduceIte, reduceCtorEq, ν1, ν2, ν3, ν4, ν5, ζ1, ζ2, ζ3, ζ4, ζ5, wn, lsE])))
  refine ⟨rfl, L - (i + 1), by omega, i + 1, rfl, rfl, by omega, v7, ?_⟩
  rw [bitsR_succ, ← hT, ← hq, ← List.append_assoc]
  exact J7
structure PE where
 deny : Bool
 r : RG
def peL (e : PE) : List Value := .bool e.deny :: rgL e.r
def pes (l : List PE) : List Value := l.flatMap peL
theorem pes_length (l : List PE) : (pes l).length = l.length * 5 := by
 induction l with
 | nil => rfl
 | cons r l ih => show (peL r ++ pes l).length = _; rw [List.length_append, ih, List.length_cons]; show 5 + _ = _; omega
theorem pes_cut : ∀ {os : List PE} {i : Nat} {p : PE}, os[i]? = some p → ((pes os).drop (i * 5)).take 5 = peL p
 | [], i, w, h => by simp at h
 | x :: os, 0, w, h => by simp at h; subst h; rfl
 | x :: os, i + 1, w, h => by
  have := pes_cut (os := os) (i := i) (p := w) (by simpa using h)
  rw [← this]
  show ((peL x ++ pes os).drop ((i + 1) * 5)).take 5 = _
  rw [show (i + 1) * 5 = 5 + i * 5 by omega, ← List.drop_drop]
  congr 1
theorem Sl.lnP {M : Mem} {v : Value} {os : List PE} (h : Sl M v 5 (pes os)) : sln v = os.length := by have := h.len; rw [pes_length] at this; omega
theorem pe_load {i : Nat} {os : List PE} {p : PE} {M : Mem} {v : Value} (hv : Sl M v 5 (pes os)) (hi : os[i]? = some p) : aload Try.prog 108 M (sbk v) (sof v + i * 5) = some (.agg ⟨peL p⟩) := by
 have hl : i < os.length := (List.getElem?_eq_some_iff.1 hi).1
 have hc := hv.cellsM (j := i * 5) (n := 5) (by omega) (by rw [pes_length]; omega)
 rw [pes_cut hi] at hc
 unfold aload
 rw [Try.underlying108]
 simp only [show tsz Try.prog 108 = some 5 by kernel_rfl, Option.bind_some]
 rw [hc]; rfl
theorem bw_spec (v : Value) (M : Mem) (hs : isSl v = true) : CallA Try.prog 74 [v] M fun r M' => r = .func (.func 107) #[] #[.pointer (some ⟨M.length, 0, none⟩)] ∧ M' = M ++ [.box [v]] := by
 have hc := isSl_cl hs
 (refine CallA.of_body Try.func74 rfl (by rfl) ?_; simp only [Try.ntmps74, List.length_cons, List.length_nil, List.replicate, List.cons_append, List.nil_append, Nat.reduceSub, Nat.reduceAdd])
 (repeat (first | refine st ?_ | refine σa ?_ | (refine σb ?_; simp (disch := omega) only [push_cast, ↓reduceIte, reduceCtorEq, ν1, ν2, ν3, ν4, ν5, ζ1, ζ2, ζ3, ζ4, ζ5, hc, lsE])))
 ((first | refine retA.ret (by rfl) ?_ | refine retA.normal (by rfl) ?_); simp (disch := omega) only [push_cast, ↓reduceIte, reduceCtorEq, Nat.reduceAdd, Nat.reduceMul, Nat.reduceLeDiff, Nat.reduceLT, Nat.reduceSub, Int.reduceNe, Int.reduceEq, Int.reduceLE, Int.reduceLT, Int.reduceToNat])
theorem bw1_spec {l b1 : Nat} {v : Value} {es : List PE} {J : Nat → Mem → Prop} (hs : isSl v = true) (hn : sln v = es.length) (hl : es.length ≤ 100000)
  (hJ : ∀ k M, J k M → At M b1 (.box [v]) ∧ Sl M v 5 (pes es))
  (hy : ∀ k M (e : PE), k < es.length → es[es.length - 1 - k]? = some e → J k M → YieldA Try.prog l [.int .i64 ((es.length : Int) - 1 - k), .agg ⟨peL e⟩] M fun b M' => b = true ∧ J (k + 1) M') {M : Mem} (h0 : J 0 M) :
  CallA Try.prog 107 [.func (.yield l) #[] #[], .pointer (some ⟨b1, 0, none⟩)] M fun _ M' => J es.length M' := by
 obtain ⟨a0, _⟩ := hJ 0 M h0
 have w0 : IntKind.i64.wrap ((es.length : Int) - 1) = (es.length : Int) - 1 := w_i64 (by omega) (by omega)
 (refine CallA.of_body Try.func107 rfl (by rfl) ?_; simp only [Try.ntmps107, List.length_cons, List.length_nil, List.replicate, List.cons_append, List.nil_append, Nat.reduceSub, Nat.reduceAdd])
 (repeat (first | refine st ?_ | refine σa ?_ | (refine σb ?_; simp (disch := omega) only [push_cast, ↓reduceIte, reduceCtorEq, ν1, ν2, ν3, ν4, ν5, ζ1, ζ2, ζ3, ζ4, ζ5, a0.ld, hs, hn, w0, buildE, lsE])))
 refine AW.loopF [3, 7, 8, 9, 10, 11, 12, 13, 14, 15, 16, 17, 18] (fun m f M' => ∃ k : Nat, f 3 = .int .i64 ((es.length : Int) - 1 - (k : Int)) ∧ k ≤ es.length ∧ m = es.length - k ∧ J k M') es.length ?_ ?_
 ·exact ⟨0, by push_cast; rw [Int.sub_zero], by omega, by omega, h0⟩
 rintro m f M1 ⟨k, h3, hk, rfl, hj⟩
 obtain ⟨a1, hsl⟩ := hJ k M1 hj
 simp (disch := omega) only [push_cast, ↓reduceIte, reduceCtorEq, Nat.reduceAdd, Nat.reduceMul, Nat.reduceLeDiff, Nat.reduceLT, Nat.reduceSub, Int.reduceNe, Int.reduceEq, Int.reduceLE, Int.reduceLT, Int.reduceToNat, h3]
 by_cases ck : k < es.length
 rotate_left
 ·have d : decide ((es.length : Int) - 1 - (k : Int) ≥ 0) = false := decide_eq_false (by omega)
  (repeat (first | refine st ?_ | refine σa ?_ | (refine σb ?_; simp (disch := omega) only [push_cast, ↓reduceIte, reduceCtorEq, ν1, ν2, ν3, ν4, ν5, ζ1, ζ2, ζ3, ζ4, ζ5, d, lsE])))
  ((first | refine retA.ret (by rfl) ?_ | refine retA.normal (by rfl) ?_); simp (disch := omega) only [push_cast, ↓reduceIte, reduceCtorEq, Nat.reduceAdd, Nat.reduceMul, Nat.reduceLeDiff, Nat.reduceLT, Nat.reduceSub, Int.reduceNe, Int.reduceEq, Int.reduceLE, Int.reduceLT, Int.reduceToNat])
  obtain rfl : k = es.length := by omega
  exact hj
 have d : decide ((es.length : Int) - 1 - (k : Int) ≥ 0) = true := decide_eq_true (by omega)
 obtain ⟨j, hjj⟩ : ∃ j, j = es.length - 1 - k := ⟨_, rfl⟩
 obtain ⟨e, he⟩ : ∃ e, es[j]? = some e := ⟨_, List.getElem?_eq_getElem (by omega)⟩
 have ej : (es.length : Int) - 1 - (k : Int) = (j : Int) := by omega
 have eti : ((j : Nat) : Int).toNat = j := Int.toNat_natCast j
 have lde := pe_load hsl he
 have hyk := hy k M1 e ck (by rw [← hjj]; exact he) hj
 rw [ej] at d hyk ⊢
 have lj : (j : Int) < (es.length : Int) := by omega
 have l0 : (0 : Int) ≤ (j : Int) := by omega
 have wj : IntKind.i64.wrap ((j : Int) - 1) = (es.length : Int) - 1 - ((k + 1 : Nat) : Int) := by rw [w_i64 (by omega) (by omega)]; omega
 (repeat (first | refine st ?_ | refine σa ?_ | (refine σy ?_; simp (disch := omega) only [push_cast, ↓reduceIte, reduceCtorEq, ν1, ν2, ν3, ν4, ν5, ζ1, ζ2, ζ3, ζ4, ζ5, d, a1.ld, hs, hn, eti, lj, l0, lde, buildE, lsE]) | (refine AL.pu rfl ?_; simp (disch := omega) only [push_cast, ↓reduceIte, reduceCtorEq, ν1, ν2, ν3, ν4, ν5, ζ1, ζ2, ζ3, ζ4, ζ5, d, a1.ld, hs, hn, eti, lj, l0, lde, buildE, lsE]; refine id (α := AL _ _ _ _ _ _) ?_)))
 refine AL.yield rfl rfl rfl rfl hyk ?_
 rintro bb M2 ⟨rfl, hj2⟩
 (repeat (first | refine st ?_ | refine σa ?_ | (refine σb ?_; simp (disch := omega) only [push_cast, ↓reduceIte, reduceCtorEq, ν1, ν2, ν3, ν4, ν5, ζ1, ζ2, ζ3, ζ4, ζ5, wj, Bool.not_true, Bool.not_false, lsE])))
 exact ⟨rfl, es.length - (k + 1), by omega, k + 1, rfl, by omega, rfl, hj2⟩
end Go.Proofs.Ytbdejnnbpdgjlaa.Ax
