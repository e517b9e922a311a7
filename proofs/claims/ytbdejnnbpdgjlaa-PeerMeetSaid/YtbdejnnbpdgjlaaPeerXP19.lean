/- Contracts of functions over the abstract machine. No conditions: lemmas alone. -/
import Derived.Test.YtbdejnnbpdgjlaaPeerXLibD
import Derived.Test.YtbdejnnbpdgjlaaPeerXP0
import Derived.Test.YtbdejnnbpdgjlaaPeerXP18
import Derived.Test.YtbdejnnbpdgjlaaPeerXP17
import Derived.Test.YtbdejnnbpdgjlaaPeerXP12
namespace Go.Proofs.Ytbdejnnbpdgjlaa.Ax
open Go Go.RowKit
open Nat renaming reduceAdd → ν1, reduceMul → ν2, reduceLeDiff → ν3, reduceLT → ν4, reduceSub → ν5
open Int renaming reduceNe → ζ1, reduceEq → ζ2, reduceLE → ζ3, reduceLT → ζ4, reduceToNat → ζ5
set_option linter.unusedVariables false
set_option linter.unusedSimpArgs false
set_option maxRecDepth 100000
set_option maxHeartbeats 20000000
attribute [local irreducible] thenA blockA scopeA retA AL AW AD ADL AH clrK CallA apure aload bload appK ptrK fnK ares szOk planOk okOps
def MR (lo : Nat) (M : Mem) (r : Value) (P : MV × (Int × Int)) : Prop := ∃ m g a c nw d, r = .tuple ⟨[.agg ⟨mvL m g a c nw d⟩, .agg ⟨[.int .i64 P.2.1, .int .i64 P.2.2]⟩]⟩ ∧ (isSl g = true ∧ isSl a = true ∧ isSl c = true ∧ isSl nw = true ∧ isSl d = true) ∧ (P.2 = (0, 0) → m = P.1 ∧ MVin M m g a c nw d ∧ ∀ b ∈ blkOf g ++ (blkOf a ++ (blkOf c ++ (blkOf nw ++ blkOf d))), lo ≤ b)
theorem parP_fuel : ∀ {f g : Nat} {v : List Int} {a : Int} {h : Bool}, v.length < f → v.length < g → parP f v a h = parP g v a h
 | 0, _, _, _, _, h, _ => absurd h (Nat.not_lt_zero _)
 | _, 0, _, _, _, _, h => absurd h (Nat.not_lt_zero _)
 | f + 1, g + 1, v, a, h, h1, h2 => by
  unfold parP
  split
  ·rfl
  ·rename_i hne
   have hp := List.length_pos_iff.2 hne
   split
   ·rfl
   ·split
    ·rfl
    ·split
     ·rfl
     ·exact parP_fuel (by rw [List.length_drop]; omega) (by rw [List.length_drop]; omega)
def mv0 (kind asn id hold : Int) : List Value := [.int .i64 kind, .int .u32 asn, .int .u32 id, .int .i64 hold, .slice none 0 0, .int .i64 0, .slice none 0 0, .int .u32 0, .int .u32 0, .int .u32 0, .bool false, .bool false, .slice none 0 0, .slice none 0 0, .int .i64 0, .int .i64 0, .slice none 0 0]
def OpJ (M : Mem) (s : Nat) (I H : Int) (R : Int ⊕ (Int × Bool)) (n : Nat) (vh : Value) (M' : Mem) : Prop := ∃ ys a has, vh = .bool has ∧ At M' s (.box (mv0 1 a I H)) ∧ At M' (s + 1) (.box [.int .i64 0, .int .i64 0]) ∧ RdA M' (s + 2) s ys false ∧ Fr M M' [] ∧ n = ys.length ∧ ys.length ≤ 5000 ∧ (∀ x ∈ ys, 0 ≤ x ∧ x ≤ 255) ∧ u32 a ∧ R = parP (ys.length + 1) ys a has
theorem pair_take {b : List Int} {n : Nat} (h : n + 2 ≤ b.length) : pairAt (takeL 2 (b.drop n)) 0 = pairAt b n := by
 unfold takeL
 rw [if_neg (by rw [List.length_drop]; omega)]
 simp [pairAt, List.getD_eq_getElem?_getD, List.getElem?_take, List.getElem?_drop]
theorem word_take {b : List Int} {n : Nat} (h : n + 4 ≤ b.length) : wordAt (takeL 4 (b.drop n)) 0 = wordAt b n := by
 unfold takeL
 rw [if_neg (by rw [List.length_drop]; omega)]
 simp [wordAt, List.getD_eq_getElem?_getD, List.getElem?_take, List.getElem?_drop]
theorem mopen_spec (v : Value) (b : List Int) (M : Mem) (hv : Sl M v 1 (ints .u8 b)) (hb : ∀ x ∈ b, 0 ≤ x ∧ x ≤ 255) (h10 : 10 ≤ b.length) (hl : b.length ≤ 5000) : CallA Try.prog 53 [v] M fun r M' => Fr M M' [] ∧ MR M.length M' r (openP b) := by
 have cv := isSl_cl hv.isSl
 have ov := isSl_one hv.isSl
 simp only [Value.oneCell'] at ov
 (refine CallA.of_body Try.func53 rfl (by rfl) ?_; simp only [Try.ntmps53, List.length_cons, List.length_nil, List.replicate, List.cons_append, List.nil_append, Nat.reduceSub, Nat.reduceAdd])
 (repeat (first | refine st ?_ | refine σa ?_ | (refine σb ?_; simp (disch := omega) only [push_cast, ↓reduceIte, reduceCtorEq, ν1, ν2, ν3, ν4, ν5, ζ1, ζ2, ζ3, ζ4, ζ5, cv, ov, buildE, memE, boxE])))
 simp only [List.length_append, List.length_cons, List.length_nil, Nat.zero_add, Nat.add_assoc, Nat.reduceAdd]
 have F0 := ((Fr.push M (.box (mv0 1 0 0 0))).tr (Fr.push _ (.box [.int .i64 0, .int .i64 0]))).tr (Fr.push _ (.box [v, .bool false]))
 have A0 := ((At.push M (.box (mv0 1 0 0 0))).keep (Fr.push _ (.box [.int .i64 0, .int .i64 0])) (by simp)).keep (Fr.push _ (.box [v, .bool false])) (by simp)
 have Q0 := (At.push (M ++ [.box (mv0 1 0 0 0)]) (.box [.int .i64 0, .int .i64 0])).keep (Fr.push _ (.box [v, .bool false])) (by simp)
 have R0 := At.push (M ++ [.box (mv0 1 0 0 0)] ++ [.box [.int .i64 0, .int .i64 0]]) (.box [v, .bool false])
 simp only [List.length_append, List.length_cons, List.length_nil, Nat.zero_add, Nat.add_assoc, Nat.reduceAdd] at Q0 R0
 unfold mv0 at F0 A0 Q0 R0
 generalize M ++ [Blk.box [.int .i64 1, .int .u32 0, .int .u32 0, .int .i64 0, .slice none 0 0, .int .i64 0, .slice none 0 0, .int .u32 0, .int .u32 0, .int .u32 0, .bool false, .bool false, .slice none 0 0, .slice none 0 0, .int .i64 0, .int .i64 0, .slice none 0 0]] ++ [Blk.box [.int .i64 0, .int .i64 0]] ++ [Blk.box [v, .bool false]] = M0 at *
 obtain ⟨s, hs⟩ : ∃ s, s = M.length := ⟨_, rfl⟩
 rw [← hs] at A0 Q0 R0 ⊢
 have hvb := hv.blks
 have r0 : RdA M0 (s + 2) s b false := ⟨v, R0, hv.keep F0 (by simp), by omega, fun c h => by have := hvb _ h; omega⟩
 have hbd : ∀ n, ∀ x ∈ b.drop n, 0 ≤ x ∧ x ≤ 255 := fun n x hx => hb x (List.mem_of_mem_drop hx)
 have fin : ∀ n m, n + m ≤ b.length → (b.drop n).length < m → False := fun n m h h' => by rw [List.length_drop] at h'; omega
 have sh : ∀ n m, n + m ≤ b.length → decide ((b.drop n).length < m) = false := fun n m h => decide_eq_false (fun h' => fin n m h h')
 refine (roct_spec (s + 2) s b false M0 r0 hb).mono ?_
 rintro r M1 ⟨f1, r1, rfl⟩
 have A1 := A0.keep f1 (by simp)
 have Q1 := Q0.keep f1 (by simp)
 rw [decide_eq_false (show ¬ b.length < 1 by omega), Bool.or_false] at r1
 (repeat (first | refine st ?_ | refine σa ?_ | (refine σb ?_; simp (disch := omega) only [push_cast, ↓reduceIte, reduceCtorEq, ν1, ν2, ν3, ν4, ν5, ζ1, ζ2, ζ3, ζ4, ζ5])))
 refine (rtwo_spec (s + 2) s _ false M1 r1 (hbd 1)).mono ?_
 rintro r M2 ⟨f2, r2, rfl⟩
 have A2 := A1.keep f2 (by simp)
 have Q2 := Q1.keep f2 (by simp)
 rw [sh 1 2 (by omega), Bool.or_false, List.drop_drop] at r2
 (repeat (first | refine st ?_ | refine σa ?_ | (refine σb ?_; simp (disch := omega) only [push_cast, ↓reduceIte, reduceCtorEq, ν1, ν2, ν3, ν4, ν5, ζ1, ζ2, ζ3, ζ4, ζ5])))
 refine (rtwo_spec (s + 2) s _ false M2 r2 (hbd _)).mono ?_
 rintro r M3 ⟨f3, r3, rfl⟩
 have A3 := A2.keep f3 (by simp)
 have Q3 := Q2.keep f3 (by simp)
 rw [sh 3 2 (by omega), Bool.or_false, List.drop_drop] at r3
 (repeat (first | refine st ?_ | refine σa ?_ | (refine σb ?_; simp (disch := omega) only [push_cast, ↓reduceIte, reduceCtorEq, ν1, ν2, ν3, ν4, ν5, ζ1, ζ2, ζ3, ζ4, ζ5])))
 refine (rfour_spec (s + 2) s _ false M3 r3 (hbd _)).mono ?_
 rintro r M4 ⟨f4, r4, rfl⟩
 have A4 := A3.keep f4 (by simp)
 have Q4 := Q3.keep f4 (by simp)
 rw [sh 5 4 (by omega), Bool.or_false, List.drop_drop] at r4
 rw [pair_take (b := b) (n := 1) (by omega), pair_take (b := b) (n := 3) (by omega), word_take (b := b) (n := 5) (by omega)]
 obtain ⟨H, hH⟩ : ∃ H, H = pairAt b 3 := ⟨_, rfl⟩
 obtain ⟨I, hI⟩ : ∃ I, I = wordAt b 5 := ⟨_, rfl⟩
 obtain ⟨as2, has2⟩ : ∃ as2, as2 = pairAt b 1 := ⟨_, rfl⟩
 obtain ⟨ver, hver⟩ : ∃ ver, ver = b.getD 0 0 := ⟨_, rfl⟩
 rw [← hH, ← hI, ← has2, ← hver]
 have g4 := (A4.set (.box (mv0 1 0 0 H))).get
 unfold mv0 at g4
 (repeat (first | refine st ?_ | refine σa ?_ | (refine σb ?_; simp (disch := omega) only [push_cast, ↓reduceIte, reduceCtorEq, ν1, ν2, ν3, ν4, ν5, ζ1, ζ2, ζ3, ζ4, ζ5, A4.get, A4.same, g4, List.drop_nil, List.append_nil, boxE])))
 have A5 := A4.set (.box (mv0 1 0 I H))
 have f5 := Fr.set M4 s (.box (mv0 1 0 I H))
 have Q5 := Q4.keep f5 (by simp)
 have hM : s < M4.length := A4.lt
 have r5 : RdA (M4.set s (.box (mv0 1 0 I H))) (s + 2) s (b.drop 9) false := by
  obtain ⟨v9, a9, s9, l9, n9⟩ := r4
  exact ⟨v9, a9.keep f5 (by simp), s9.keep f5 (fun c hc => by have := n9 c hc; simp; omega), l9, n9⟩
 unfold mv0 at A5 f5 Q5 r5
 generalize M4.set s (.box [.int .i64 1, .int .u32 0, .int .u32 I, .int .i64 H, .slice none 0 0, .int .i64 0, .slice none 0 0, .int .u32 0, .int .u32 0, .int .u32 0, .bool false, .bool false, .slice none 0 0, .slice none 0 0, .int .i64 0, .int .i64 0, .slice none 0 0]) = M5 at *
 have F5 : Fr M M5 [] := (((((F0.trans f1).trans f2).trans f3).trans f4).trans f5).cut (fun c hc hlt => by simp at hc; omega)
 refine (roct_spec (s + 2) s _ false M5 r5 (hbd 9)).mono ?_
 rintro r M6 ⟨f6, r6, rfl⟩
 have A6 := A5.keep f6 (by simp)
 have Q6 := Q5.keep f6 (by simp)
 have F6 : Fr M M6 [] := (F5.trans f6).cut (fun c hc hlt => by simp at hc; omega)
 rw [sh 9 1 (by omega), Bool.or_false, List.drop_drop] at r6
 have e9 : (b.drop 9).getD 0 0 = b.getD 9 0 := by simp [List.getD_eq_getElem?_getD, List.getElem?_drop]
 rw [e9]
 have r6' := r6
 obtain ⟨v6, a6, s6, l6, n6⟩ := r6'
 have wrong : ∀ (M' : Mem) (c1 c2 k a i h : Int), (openP b).2 = (c1, c2) → (c1, c2) ≠ (0, 0) → MR s M' (.tuple ⟨[.agg ⟨mv0 k a i h⟩, .agg ⟨[.int .i64 c1, .int .i64 c2]⟩]⟩) (openP b) := fun M' c1 c2 k a i h e hne =>
  ⟨{ MV.zero with kind := k, asn := a, id := i, hold := h }, .slice none 0 0, .slice none 0 0, .slice none 0 0, .slice none 0 0, .slice none 0 0, by rw [e]; rfl, ⟨rfl, rfl, rfl, rfl, rfl⟩, fun e' => absurd (e.symm.trans e') hne⟩
 unfold mv0 at wrong
 by_cases c4 : ver = 4
 rotate_left
 ·have d4 : decide (ver = 4) = false := decide_eq_false c4
  have e : (openP b).2 = (2, 1) := by unfold openP; rw [if_pos (by rw [← hver]; exact c4)]
  (repeat (first | refine st ?_ | refine σa ?_ | (refine σb ?_; simp (disch := omega) only [push_cast, ↓reduceIte, reduceCtorEq, ν1, ν2, ν3, ν4, ν5, ζ1, ζ2, ζ3, ζ4, ζ5, d4, A6.ld, Bool.not_true, Bool.not_false, A6.get, Q6.get, A6.same, Q6.same, List.drop_nil, List.append_nil, boxE, buildE])))
  have Ay := A6.keep (Fr.set M6 (s + 1) (.box [.int .i64 2, .int .i64 1])) (by simp)
  have Qy := Q6.set (.box [.int .i64 2, .int .i64 1])
  ((first | refine retA.ret (by rfl) ?_ | refine retA.normal (by rfl) ?_); simp (disch := omega) only [push_cast, ↓reduceIte, reduceCtorEq, Nat.reduceAdd, Nat.reduceMul, Nat.reduceLeDiff, Nat.reduceLT, Nat.reduceSub, Int.reduceNe, Int.reduceEq, Int.reduceLE, Int.reduceLT, Int.reduceToNat, Ay.ld, Qy.ld, buildE])
  exact ⟨(F6.trans (Fr.set M6 (s + 1) _)).cut (fun c hc hlt => by simp at hc; omega), wrong _ 2 1 1 0 I H e (by simp)⟩
 have d4 : decide (ver = 4) = true := decide_eq_true c4
 have sv6 := s6.isSl
 have lv6 := s6.lnI
 rw [List.length_drop] at lv6
 have b9 := getD_byte hb 9
 have b91 := b9.1
 have b92 := b9.2
 have lc : (((b.length - (9 + 1) : Nat)) : Int) = (b.length : Int) - 10 := by omega
 by_cases cn : b.getD 9 0 = (b.length : Int) - 10
 rotate_left
 ·have dn : decide (b.getD 9 0 = (b.length : Int) - 10) = false := decide_eq_false cn
  have e : (openP b).2 = (2, 0) := by unfold openP; rw [if_neg (by rw [← hver]; omega), if_pos cn]
  (repeat (first | refine st ?_ | refine σa ?_ | (refine σb ?_; simp (disch := omega) only [push_cast, ↓reduceIte, reduceCtorEq, ν1, ν2, ν3, ν4, ν5, ζ1, ζ2, ζ3, ζ4, ζ5, d4, a6.ld, sv6, lv6, lc, dn, A6.ld, Bool.not_true, Bool.not_false, A6.get, Q6.get, A6.same, Q6.same, List.drop_nil, List.append_nil, boxE, buildE])))
  have Ay := A6.keep (Fr.set M6 (s + 1) (.box [.int .i64 2, .int .i64 0])) (by simp)
  have Qy := Q6.set (.box [.int .i64 2, .int .i64 0])
  ((first | refine retA.ret (by rfl) ?_ | refine retA.normal (by rfl) ?_); simp (disch := omega) only [push_cast, ↓reduceIte, reduceCtorEq, Nat.reduceAdd, Nat.reduceMul, Nat.reduceLeDiff, Nat.reduceLT, Nat.reduceSub, Int.reduceNe, Int.reduceEq, Int.reduceLE, Int.reduceLT, Int.reduceToNat, Ay.ld, Qy.ld, buildE])
  exact ⟨(F6.trans (Fr.set M6 (s + 1) _)).cut (fun c hc hlt => by simp at hc; omega), wrong _ 2 0 1 0 I H e (by simp)⟩
 have dn : decide (b.getD 9 0 = (b.length : Int) - 10) = true := decide_eq_true cn
 (repeat (first | refine st ?_ | refine σa ?_ | (refine σb ?_; simp (disch := omega) only [push_cast, ↓reduceIte, reduceCtorEq, ν1, ν2, ν3, ν4, ν5, ζ1, ζ2, ζ3, ζ4, ζ5, d4, a6.ld, sv6, lv6, lc, dn, Bool.not_true, Bool.not_false, buildE])))
 obtain ⟨R, hR⟩ : ∃ R, R = parP (b.length + 1) (b.drop 10) 0 false := ⟨_, rfl⟩
 refine AW.loopF [8, 9, 10, 11, 43, 44, 45, 46, 47, 48, 49, 50, 51, 52, 53, 54, 55, 56, 57, 58, 59, 60, 61, 62, 63, 64, 65, 66, 67, 68, 69, 70, 71, 72, 73, 74, 75, 76, 77, 78, 79, 80, 81, 82] (fun n g M' => OpJ M s I H R n (g 8) M') (b.drop 10).length ?_ ?_
 ·exact ⟨b.drop 10, 0, false, rfl, A6, Q6, r6, F6, rfl, by rw [List.length_drop]; omega, hbd 10, by unfold u32; omega, by rw [hR]; exact parP_fuel (by rw [List.length_drop]; omega) (by omega)⟩
 rintro n g M7 ⟨ys, a, has, h8, A7, Q7, r7, F7, rfl, hyl, hyb, ua, hRy⟩
 simp (disch := omega) only [push_cast, ↓reduceIte, reduceCtorEq, Nat.reduceAdd, Nat.reduceMul, Nat.reduceLeDiff, Nat.reduceLT, Nat.reduceSub, Int.reduceNe, Int.reduceEq, Int.reduceLE, Int.reduceLT, Int.reduceToNat, h8]
 have r7' := r7
 obtain ⟨v7, a7, s7, l7, n7⟩ := r7'
 have sv7 := s7.isSl
 have lv7 := s7.lnI
 unfold mv0 at A7
 by_cases hne : ys = []
 ·have d : decide ((ys.length : Int) > 0) = false := decide_eq_false (by rw [hne]; simp)
  have er : openP b = if has = false then (MV.zero, (2, 7)) else if a = 0 ∨ as2 ≠ shortP a then (MV.zero, (2, 2)) else if H = 1 ∨ H = 2 then (MV.zero, (2, 6)) else if I = 0 then (MV.zero, (2, 3))
    else ({ MV.zero with kind := 1, asn := a, id := I, hold := H }, (0, 0)) := by
   have hp : parP (b.length + 1) (b.drop 10) 0 false = .inr (a, has) := by rw [← hR, hRy, hne]; rfl
   unfold openP
   rw [if_neg (by rw [← hver]; omega), if_neg (by omega), hp, hH, hI, has2]
  by_cases ch : has = false
  ·have e : (openP b).2 = (2, 7) := by rw [er, if_pos ch]
   (repeat (first | refine st ?_ | refine σa ?_ | (refine σb ?_; simp (disch := omega) only [push_cast, ↓reduceIte, reduceCtorEq, ν1, ν2, ν3, ν4, ν5, ζ1, ζ2, ζ3, ζ4, ζ5, a7.ld, sv7, lv7, d, ch, A7.ld, Bool.not_true, Bool.not_false, A7.get, Q7.get, A7.same, Q7.same, List.drop_nil, List.append_nil, boxE, buildE])))
   have Ay := A7.keep (Fr.set M7 (s + 1) (.box [.int .i64 2, .int .i64 7])) (by simp)
   have Qy := Q7.set (.box [.int .i64 2, .int .i64 7])
   ((first | refine retA.ret (by rfl) ?_ | refine retA.normal (by rfl) ?_); simp (disch := omega) only [push_cast, ↓reduceIte, reduceCtorEq, Nat.reduceAdd, Nat.reduceMul, Nat.reduceLeDiff, Nat.reduceLT, Nat.reduceSub, Int.reduceNe, Int.reduceEq, Int.reduceLE, Int.reduceLT, Int.reduceToNat, Ay.ld, Qy.ld, buildE])
   exact ⟨(F7.trans (Fr.set M7 (s + 1) _)).cut (fun c hc hlt => by simp at hc; omega), wrong _ 2 7 1 a I H e (by simp)⟩
  have ch' : has = true := by simpa using ch
  by_cases ca : a = 0
  ·have e : (openP b).2 = (2, 2) := by rw [er, if_neg ch, if_pos (.inl ca)]
   have da : decide (a = 0) = true := decide_eq_true ca
   (repeat (first | refine st ?_ | refine σa ?_ | (refine σb ?_; simp (disch := omega) only [push_cast, ↓reduceIte, reduceCtorEq, ν1, ν2, ν3, ν4, ν5, ζ1, ζ2, ζ3, ζ4, ζ5, a7.ld, sv7, lv7, d, ch', da, A7.ld, Bool.not_true, Bool.not_false, A7.get, Q7.get, A7.same, Q7.same, List.drop_nil, List.append_nil, boxE, buildE])))
   have Ay := A7.keep (Fr.set M7 (s + 1) (.box [.int .i64 2, .int .i64 2])) (by simp)
   have Qy := Q7.set (.box [.int .i64 2, .int .i64 2])
   ((first | refine retA.ret (by rfl) ?_ | refine retA.normal (by rfl) ?_); simp (disch := omega) only [push_cast, ↓reduceIte, reduceCtorEq, Nat.reduceAdd, Nat.reduceMul, Nat.reduceLeDiff, Nat.reduceLT, Nat.reduceSub, Int.reduceNe, Int.reduceEq, Int.reduceLE, Int.reduceLT, Int.reduceToNat, Ay.ld, Qy.ld, buildE])
   exact ⟨(F7.trans (Fr.set M7 (s + 1) _)).cut (fun c hc hlt => by simp at hc; omega), wrong _ 2 2 1 a I H e (by simp)⟩
  have da : decide (a = 0) = false := decide_eq_false ca
  (repeat (first | refine st ?_ | refine σa ?_ | (refine σb ?_; simp (disch := omega) only [push_cast, ↓reduceIte, reduceCtorEq, ν1, ν2, ν3, ν4, ν5, ζ1, ζ2, ζ3, ζ4, ζ5, a7.ld, sv7, lv7, d, ch', da, A7.ld, Bool.not_true, Bool.not_false, buildE])))
  refine (short_spec a M7 ua).mono ?_
  rintro r M8 ⟨rfl, rfl⟩
  have sr := shortP_rng ua
  have ws : IntKind.i64.wrap (shortP a) = shortP a := w_i64 (by omega) (by omega)
  have hHr : 0 ≤ H ∧ H ≤ 65535 := by rw [hH]; exact pairAt_rng hb 3
  by_cases cs : as2 = shortP a
  rotate_left
  ·have e : (openP b).2 = (2, 2) := by rw [er, if_neg ch, if_pos (.inr cs)]
   have ds : decide (as2 = shortP a) = false := decide_eq_false cs
   (repeat (first | refine st ?_ | refine σa ?_ | (refine σb ?_; simp (disch := omega) only [push_cast, ↓reduceIte, reduceCtorEq, ν1, ν2, ν3, ν4, ν5, ζ1, ζ2, ζ3, ζ4, ζ5, ws, ds, A7.ld, Bool.not_true, Bool.not_false, A7.get, Q7.get, A7.same, Q7.same, List.drop_nil, List.append_nil, boxE, buildE])))
   have Ay := A7.keep (Fr.set M8 (s + 1) (.box [.int .i64 2, .int .i64 2])) (by simp)
   have Qy := Q7.set (.box [.int .i64 2, .int .i64 2])
   ((first | refine retA.ret (by rfl) ?_ | refine retA.normal (by rfl) ?_); simp (disch := omega) only [push_cast, ↓reduceIte, reduceCtorEq, Nat.reduceAdd, Nat.reduceMul, Nat.reduceLeDiff, Nat.reduceLT, Nat.reduceSub, Int.reduceNe, Int.reduceEq, Int.reduceLE, Int.reduceLT, Int.reduceToNat, Ay.ld, Qy.ld, buildE])
   exact ⟨(F7.trans (Fr.set M8 (s + 1) _)).cut (fun c hc hlt => by simp at hc; omega), wrong _ 2 2 1 a I H e (by simp)⟩
  have ds : decide (as2 = shortP a) = true := decide_eq_true cs
  have n2 : ¬ (a = 0 ∨ as2 ≠ shortP a) := by rintro (h | h); exact ca h; exact h cs
  by_cases cH : H = 1 ∨ H = 2
  ·have e : (openP b).2 = (2, 6) := by rw [er, if_neg ch, if_neg n2, if_pos cH]
   have dh : decide (H > 0) = true := decide_eq_true (by omega)
   have dh2 : decide (H < 3) = true := decide_eq_true (by omega)
   (repeat (first | refine st ?_ | refine σa ?_ | (refine σb ?_; simp (disch := omega) only [push_cast, ↓reduceIte, reduceCtorEq, ν1, ν2, ν3, ν4, ν5, ζ1, ζ2, ζ3, ζ4, ζ5, ws, ds, dh, dh2, A7.ld, Bool.not_true, Bool.not_false, A7.get, Q7.get, A7.same, Q7.same, List.drop_nil, List.append_nil, boxE, buildE])))
   have Ay := A7.keep (Fr.set M8 (s + 1) (.box [.int .i64 2, .int .i64 6])) (by simp)
   have Qy := Q7.set (.box [.int .i64 2, .int .i64 6])
   ((first | refine retA.ret (by rfl) ?_ | refine retA.normal (by rfl) ?_); simp (disch := omega) only [push_cast, ↓reduceIte, reduceCtorEq, Nat.reduceAdd, Nat.reduceMul, Nat.reduceLeDiff, Nat.reduceLT, Nat.reduceSub, Int.reduceNe, Int.reduceEq, Int.reduceLE, Int.reduceLT, Int.reduceToNat, Ay.ld, Qy.ld, buildE])
   exact ⟨(F7.trans (Fr.set M8 (s + 1) _)).cut (fun c hc hlt => by simp at hc; omega), wrong _ 2 6 1 a I H e (by simp)⟩
  obtain ⟨dH, hdH⟩ : ∃ x, x = decide (H > 0) := ⟨_, rfl⟩
  have fin2 : (decide (H > 0) = true ∧ decide (H < 3) = false) ∨ decide (H > 0) = false := by
   by_cases h : H > 0
   ·exact .inl ⟨decide_eq_true h, decide_eq_false (by omega)⟩
   ·exact .inr (decide_eq_false h)
  by_cases cI : I = 0
  ·have e : (openP b).2 = (2, 3) := by rw [er, if_neg ch, if_neg n2, if_neg cH, if_pos cI]
   have di : decide (I = 0) = true := decide_eq_true cI
   rcases fin2 with ⟨dh, dh2⟩ | dh
   ·(repeat (first | refine st ?_ | refine σa ?_ | (refine σb ?_; simp (disch := omega) only [push_cast, ↓reduceIte, reduceCtorEq, ν1, ν2, ν3, ν4, ν5, ζ1, ζ2, ζ3, ζ4, ζ5, ws, ds, dh, dh2, di, A7.ld, Bool.not_true, Bool.not_false, A7.get, Q7.get, A7.same, Q7.same, List.drop_nil, List.append_nil, boxE, buildE])))
    have Ay := A7.keep (Fr.set M8 (s + 1) (.box [.int .i64 2, .int .i64 3])) (by simp)
    have Qy := Q7.set (.box [.int .i64 2, .int .i64 3])
    ((first | refine retA.ret (by rfl) ?_ | refine retA.normal (by rfl) ?_); simp (disch := omega) only [push_cast, ↓reduceIte, reduceCtorEq, Nat.reduceAdd, Nat.reduceMul, Nat.reduceLeDiff, Nat.reduceLT, Nat.reduceSub, Int.reduceNe, Int.reduceEq, Int.reduceLE, Int.reduceLT, Int.reduceToNat, Ay.ld, Qy.ld, buildE])
    exact ⟨(F7.trans (Fr.set M8 (s + 1) _)).cut (fun c hc hlt => by simp at hc; omega), wrong _ 2 3 1 a I H e (by simp)⟩
   ·(repeat (first | refine st ?_ | refine σa ?_ | (refine σb ?_; simp (disch := omega) only [push_cast, ↓reduceIte, reduceCtorEq, ν1, ν2, ν3, ν4, ν5, ζ1, ζ2, ζ3, ζ4, ζ5, ws, ds, dh, di, A7.ld, Bool.not_true, Bool.not_false, A7.get, Q7.get, A7.same, Q7.same, List.drop_nil, List.append_nil, boxE, buildE])))
    have Ay := A7.keep (Fr.set M8 (s + 1) (.box [.int .i64 2, .int .i64 3])) (by simp)
    have Qy := Q7.set (.box [.int .i64 2, .int .i64 3])
    ((first | refine retA.ret (by rfl) ?_ | refine retA.normal (by rfl) ?_); simp (disch := omega) only [push_cast, ↓reduceIte, reduceCtorEq, Nat.reduceAdd, Nat.reduceMul, Nat.reduceLeDiff, Nat.reduceLT, Nat.reduceSub, Int.reduceNe, Int.reduceEq, Int.reduceLE, Int.reduceLT, Int.reduceToNat, Ay.ld, Qy.ld, buildE])
    exact ⟨(F7.trans (Fr.set M8 (s + 1) _)).cut (fun c hc hlt => by simp at hc; omega), wrong _ 2 3 1 a I H e (by simp)⟩
  have di : decide (I = 0) = false := decide_eq_false cI
  rcases fin2 with ⟨dh, dh2⟩ | dh
  ·(repeat (first | refine st ?_ | refine σa ?_ | (refine σb ?_; simp (disch := omega) only [push_cast, ↓reduceIte, reduceCtorEq, ν1, ν2, ν3, ν4, ν5, ζ1, ζ2, ζ3, ζ4, ζ5, ws, ds, dh, dh2, di, A7.ld, Bool.not_true, Bool.not_false, A7.get, Q7.get, A7.same, Q7.same, List.drop_nil, List.append_nil, boxE, buildE])))
   ((first | refine retA.ret (by rfl) ?_ | refine retA.normal (by rfl) ?_); simp (disch := omega) only [push_cast, ↓reduceIte, reduceCtorEq, Nat.reduceAdd, Nat.reduceMul, Nat.reduceLeDiff, Nat.reduceLT, Nat.reduceSub, Int.reduceNe, Int.reduceEq, Int.reduceLE, Int.reduceLT, Int.reduceToNat, A7.ld, Q7.ld, buildE])
   have eo : openP b = ({ MV.zero with kind := 1, asn := a, id := I, hold := H }, (0, 0)) := by rw [er, if_neg ch, if_neg n2, if_neg cH, if_neg cI]
   exact ⟨F7, { MV.zero with kind := 1, asn := a, id := I, hold := H }, .slice none 0 0, .slice none 0 0, .slice none 0 0, .slice none 0 0, .slice none 0 0, by rw [eo]; rfl, ⟨rfl, rfl, rfl, rfl, rfl⟩, fun _ => ⟨by rw [eo], ⟨Sl.nil _ (by omega), Sl.nil _ (by omega), Sl.nil _ (by omega), Sl.nil _ (by omega), Sl.nil _ (by omega)⟩, by simp [blkOf]⟩⟩
  ·(repeat (first | refine st ?_ | refine σa ?_ | (refine σb ?_; simp (disch := omega) only [push_cast, ↓reduceIte, reduceCtorEq, ν1, ν2, ν3, ν4, ν5, ζ1, ζ2, ζ3, ζ4, ζ5, ws, ds, dh, di, A7.ld, Bool.not_true, Bool.not_false, A7.get, Q7.get, A7.same, Q7.same, List.drop_nil, List.append_nil, boxE, buildE])))
   ((first | refine retA.ret (by rfl) ?_ | refine retA.normal (by rfl) ?_); simp (disch := omega) only [push_cast, ↓reduceIte, reduceCtorEq, Nat.reduceAdd, Nat.reduceMul, Nat.reduceLeDiff, Nat.reduceLT, Nat.reduceSub, Int.reduceNe, Int.reduceEq, Int.reduceLE, Int.reduceLT, Int.reduceToNat, A7.ld, Q7.ld, buildE])
   have eo : openP b = ({ MV.zero with kind := 1, asn := a, id := I, hold := H }, (0, 0)) := by rw [er, if_neg ch, if_neg n2, if_neg cH, if_neg cI]
   exact ⟨F7, { MV.zero with kind := 1, asn := a, id := I, hold := H }, .slice none 0 0, .slice none 0 0, .slice none 0 0, .slice none 0 0, .slice none 0 0, by rw [eo]; rfl, ⟨rfl, rfl, rfl, rfl, rfl⟩, fun _ => ⟨by rw [eo], ⟨Sl.nil _ (by omega), Sl.nil _ (by omega), Sl.nil _ (by omega), Sl.nil _ (by omega), Sl.nil _ (by omega)⟩, by simp [blkOf]⟩⟩
 have hpos := List.length_pos_iff.2 hne
 have d : decide ((ys.length : Int) > 0) = true := decide_eq_true (by omega)
 (repeat (first | refine st ?_ | refine σa ?_ | (refine σb ?_; simp (disch := omega) only [push_cast, ↓reduceIte, reduceCtorEq, ν1, ν2, ν3, ν4, ν5, ζ1, ζ2, ζ3, ζ4, ζ5, a7.ld, sv7, lv7, d, buildE])))
 refine (roct_spec (s + 2) s ys false M7 r7 hyb).mono ?_
 rintro r Ma ⟨fa, ra, rfl⟩
 have Aa := A7.keep fa (by simp)
 have Qa := Q7.keep fa (by simp)
 (repeat (first | refine st ?_ | refine σa ?_ | (refine σb ?_; simp (disch := omega) only [push_cast, ↓reduceIte, reduceCtorEq, ν1, ν2, ν3, ν4, ν5, ζ1, ζ2, ζ3, ζ4, ζ5])))
 refine (roct_spec (s + 2) s _ _ Ma ra (fun x hx => hyb x (List.mem_of_mem_drop hx))).mono ?_
 rintro r Mb ⟨fb, rb, rfl⟩
 have Ab := Aa.keep fb (by simp)
 have Qb := Qa.keep fb (by simp)
 have hb2 : ∀ x ∈ (ys.drop 1).drop 1, 0 ≤ x ∧ x ≤ 255 := fun x hx => hyb x (List.mem_of_mem_drop (List.mem_of_mem_drop hx))
 have e1 : (ys.drop 1).getD 0 0 = ys.getD 1 0 := by simp [List.getD_eq_getElem?_getD]
 have e2 : (ys.drop 1).drop 1 = ys.drop 2 := by rw [List.drop_drop]
 obtain ⟨S2, hS2⟩ : ∃ S2, S2 = (false || decide (ys.length < 1) || decide ((ys.drop 1).length < 1)) := ⟨_, rfl⟩
 rw [← hS2, e2] at rb
 rw [e2] at hb2
 have c0 := getD_byte hyb 0
 have c1 := getD_byte hyb 1
 obtain ⟨k, hk⟩ : ∃ k : Nat, ys.getD 1 0 = k := ⟨(ys.getD 1 0).toNat, by have := c1.1; omega⟩
 obtain ⟨z, hz⟩ : ∃ z, z = ys.getD 0 0 := ⟨_, rfl⟩
 have c11 := c1.1
 have c12 := c1.2
 rw [hk] at e1 c11 c12
 rw [e1, ← hz]
 (repeat (first | refine st ?_ | refine σa ?_ | (refine σb ?_; simp (disch := omega) only [push_cast, ↓reduceIte, reduceCtorEq, ν1, ν2, ν3, ν4, ν5, ζ1, ζ2, ζ3, ζ4, ζ5])))
 refine (rtake_spec (s + 2) s k _ _ Mb rb (by omega)).mono ?_
 rintro rw Mc ⟨fc, rc, sw, hrw⟩
 have Ac := Ab.keep fc (by simp)
 have Qc := Qb.keep fc (by simp)
 have cw := isSl_cl sw.isSl
 have ow := isSl_one sw.isSl
 simp only [Value.oneCell'] at ow
 have Fc : Fr M Mc [] := (((F7.trans fa).trans fb).trans fc).cut (fun c hc hlt => by simp at hc; omega)
 have Pi := Fr.push Mc (.box [rw, .bool false])
 have Ai := Ac.keep Pi (by simp)
 have Qi := Qc.keep Pi (by simp)
 have Bi := At.push Mc (.box [rw, .bool false])
 obtain ⟨S, hS⟩ : ∃ S, S = (S2 || decide ((ys.drop 2).length < k)) := ⟨_, rfl⟩
 rw [← hS] at rc
 have rc' := rc
 obtain ⟨vc, ac, sc, lc', nc⟩ := rc'
 have aci := ac.keep Pi (by simp)
 have Fi := Fc.tr Pi
 (repeat (first | refine st ?_ | refine σa ?_ | (refine σb ?_; simp (disch := omega) only [push_cast, ↓reduceIte, reduceCtorEq, ν1, ν2, ν3, ν4, ν5, ζ1, ζ2, ζ3, ζ4, ζ5, cw, ow, buildE, memE, boxE])))
 generalize hMi : Mc ++ [Blk.box [rw, .bool false]] = Mi at *
 have hs1 : s < Mc.length := Ac.lt
 have hs2 : s + 1 < Mc.length := Qc.lt
 have hs3 : s + 2 < Mc.length := ac.lt
 have er : ∀ sub, R = .inl sub → (openP b).2 = (2, sub) := by
  intro sub h
  have hp : parP (b.length + 1) (b.drop 10) 0 false = .inl sub := by rw [← hR, h]
  unfold openP
  rw [if_neg (by rw [← hver]; omega), if_neg (by omega), hp]
 have hpar : R = if ys.length < 2 ∨ ys.length - 2 < k then .inl 0 else if z ≠ 2 then .inl 4 else match capP (k + 1) ((ys.drop 2).take k) a has with
   | none => .inl 0
   | some (a', h') => parP ys.length (ys.drop (2 + k)) a' h' := by
  rw [hRy, parP, if_neg hne, ← hz, hk, Int.toNat_natCast]; rfl
 by_cases bad : ys.length < 2 ∨ ys.length - 2 < k
 ·have hSt : S = true := by
   rw [hS, hS2]
   simp only [List.length_drop]
   by_cases q1 : ys.length < 2
   ·have : decide (ys.length - 1 < 1) = true := decide_eq_true (by omega)
    rw [this]; simp
   ·have : decide (ys.length - 2 < k) = true := decide_eq_true (by omega)
    rw [this]; simp
  have e : (openP b).2 = (2, 0) := er 0 (by rw [hpar, if_pos bad])
  rw [hSt] at aci
  simp (disch := omega) only [push_cast, ↓reduceIte, reduceCtorEq, Nat.reduceAdd, Nat.reduceMul, Nat.reduceLeDiff, Nat.reduceLT, Nat.reduceSub, Int.reduceNe, Int.reduceEq, Int.reduceLE, Int.reduceLT, Int.reduceToNat, aci.ld, buildE]
  (repeat (first | refine st ?_ | refine σa ?_ | (refine σb ?_; simp (disch := omega) only [push_cast, ↓reduceIte, reduceCtorEq, ν1, ν2, ν3, ν4, ν5, ζ1, ζ2, ζ3, ζ4, ζ5, aci.ld, Ai.ld, Bool.not_true, Bool.not_false, Ai.get, Qi.get, Ai.same, Qi.same, List.drop_nil, List.append_nil, boxE, buildE])))
  have Ay := Ai.keep (Fr.set Mi (s + 1) (.box [.int .i64 2, .int .i64 0])) (by simp)
  have Qy := Qi.set (.box [.int .i64 2, .int .i64 0])
  ((first | refine retA.ret (by rfl) ?_ | refine retA.normal (by rfl) ?_); simp (disch := omega) only [push_cast, ↓reduceIte, reduceCtorEq, Nat.reduceAdd, Nat.reduceMul, Nat.reduceLeDiff, Nat.reduceLT, Nat.reduceSub, Int.reduceNe, Int.reduceEq, Int.reduceLE, Int.reduceLT, Int.reduceToNat, Ay.ld, Qy.ld, buildE])
  exact ⟨(Fi.trans (Fr.set Mi (s + 1) _)).cut (fun c hc hlt => by simp at hc; omega), wrong _ 2 0 1 a I H e (by simp)⟩
 have hSf : S = false := by
  rw [hS, hS2]
  simp only [List.length_drop]
  rw [decide_eq_false (by omega), decide_eq_false (by omega), decide_eq_false (by omega)]; rfl
 rw [hSf] at aci
 by_cases c2 : z = 2
 rotate_left
 ·have dz : decide (z = 2) = false := decide_eq_false c2
  have e : (openP b).2 = (2, 4) := er 4 (by rw [hpar, if_neg bad, if_pos c2])
  simp (disch := omega) only [push_cast, ↓reduceIte, reduceCtorEq, Nat.reduceAdd, Nat.reduceMul, Nat.reduceLeDiff, Nat.reduceLT, Nat.reduceSub, Int.reduceNe, Int.reduceEq, Int.reduceLE, Int.reduceLT, Int.reduceToNat, aci.ld, buildE]
  (repeat (first | refine st ?_ | refine σa ?_ | (refine σb ?_; simp (disch := omega) only [push_cast, ↓reduceIte, reduceCtorEq, ν1, ν2, ν3, ν4, ν5, ζ1, ζ2, ζ3, ζ4, ζ5, aci.ld, dz, Ai.ld, Bool.not_true, Bool.not_false, Ai.get, Qi.get, Ai.same, Qi.same, List.drop_nil, List.append_nil, boxE, buildE])))
  have Ay := Ai.keep (Fr.set Mi (s + 1) (.box [.int .i64 2, .int .i64 4])) (by simp)
  have Qy := Qi.set (.box [.int .i64 2, .int .i64 4])
  ((first | refine retA.ret (by rfl) ?_ | refine retA.normal (by rfl) ?_); simp (disch := omega) only [push_cast, ↓reduceIte, reduceCtorEq, Nat.reduceAdd, Nat.reduceMul, Nat.reduceLeDiff, Nat.reduceLT, Nat.reduceSub, Int.reduceNe, Int.reduceEq, Int.reduceLE, Int.reduceLT, Int.reduceToNat, Ay.ld, Qy.ld, buildE])
  exact ⟨(Fi.trans (Fr.set Mi (s + 1) _)).cut (fun c hc hlt => by simp at hc; omega), wrong _ 2 4 1 a I H e (by simp)⟩
 have dz : decide (z = 2) = true := decide_eq_true c2
 have ri : RdA Mi Mc.length Mc.length (takeL k (ys.drop 2)) false := ⟨rw, Bi, sw.keep Pi (by simp), Nat.le_refl _, sw.blks⟩
 simp (disch := omega) only [push_cast, ↓reduceIte, reduceCtorEq, Nat.reduceAdd, Nat.reduceMul, Nat.reduceLeDiff, Nat.reduceLT, Nat.reduceSub, Int.reduceNe, Int.reduceEq, Int.reduceLE, Int.reduceLT, Int.reduceToNat, aci.ld, buildE]
 (repeat (first | refine st ?_ | refine σa ?_ | (refine σb ?_; simp (disch := omega) only [push_cast, ↓reduceIte, reduceCtorEq, ν1, ν2, ν3, ν4, ν5, ζ1, ζ2, ζ3, ζ4, ζ5, aci.ld, dz, Ai.ld, Bool.not_true, Bool.not_false, buildE])))
 refine (cap_spec Mc.length Mc.length (takeL k (ys.drop 2)) a has Mi ri (takeL_byte hb2) (by rw [takeL_length]; omega)).mono ?_
 rintro r Md ⟨fd, yd, sd, rd, a', h', rfl, hd⟩
 have etk : takeL k (ys.drop 2) = (ys.drop 2).take k := by unfold takeL; rw [if_neg (by rw [List.length_drop]; omega)]
 rw [takeL_length, etk] at hd
 have Ad := Ai.keep fd (by simp; omega)
 have Qd := Qi.keep fd (by simp; omega)
 have rcd := aci.keep fd (by simp; omega)
 have Fd : Fr M Md [] := (Fi.trans fd).cut (fun c hc hlt => by simp at hc; have := Fc.1; omega)
 obtain ⟨vd, ad, sld, lod, ned⟩ := rd
 have As := Ad.set (.box (mv0 1 a' I H))
 have fs := Fr.set Md s (.box (mv0 1 a' I H))
 have ads := ad.keep fs (by simp; omega)
 have Qs := Qd.keep fs (by simp)
 have rcs := rcd.keep fs (by simp)
 have scs := (sc.keep Pi (by simp)).keep fd (fun c hc => by have := nc c hc; simp; omega) |>.keep fs (fun c hc => by have := nc c hc; simp; omega)
 unfold mv0 at As fs ads Qs rcs scs
 rcases hd with ⟨rfl, hn⟩ | ⟨rfl, hn⟩
 ·have e : (openP b).2 = (2, 0) := er 0 (by rw [hpar, if_neg bad, if_neg (by omega), hn])
  (repeat (first | refine st ?_ | refine σa ?_ | (refine σb ?_; simp (disch := omega) only [push_cast, ↓reduceIte, reduceCtorEq, ν1, ν2, ν3, ν4, ν5, ζ1, ζ2, ζ3, ζ4, ζ5, Ad.get, Ad.same, List.drop_nil, List.append_nil, boxE, buildE, ads.ld, As.ld, As.get, As.same, Qs.get, Qs.same, Bool.not_true, Bool.not_false])))
  have Ay := As.keep (Fr.set _ (s + 1) (.box [.int .i64 2, .int .i64 0])) (by simp)
  have Qy := Qs.set (.box [.int .i64 2, .int .i64 0])
  ((first | refine retA.ret (by rfl) ?_ | refine retA.normal (by rfl) ?_); simp (disch := omega) only [push_cast, ↓reduceIte, reduceCtorEq, Nat.reduceAdd, Nat.reduceMul, Nat.reduceLeDiff, Nat.reduceLT, Nat.reduceSub, Int.reduceNe, Int.reduceEq, Int.reduceLE, Int.reduceLT, Int.reduceToNat, Ay.ld, Qy.ld, buildE])
  exact ⟨((Fd.trans fs).trans (Fr.set _ (s + 1) _)).cut (fun c hc hlt => by simp at hc; omega), wrong _ 2 0 1 a' I H e (by simp)⟩
 ·(repeat (first | refine st ?_ | refine σa ?_ | (refine σb ?_; simp (disch := omega) only [push_cast, ↓reduceIte, reduceCtorEq, ν1, ν2, ν3, ν4, ν5, ζ1, ζ2, ζ3, ζ4, ζ5, Ad.get, Ad.same, List.drop_nil, List.append_nil, boxE, buildE, ads.ld, Bool.not_true, Bool.not_false])))
  rw [List.drop_drop] at scs
  have bt : bytesL ((ys.drop 2).take k) := fun x hx => hb2 x (List.mem_of_mem_take hx)
  have hln : (ys.drop (2 + k)).length < ys.length := by rw [List.length_drop]; omega
  refine ⟨rfl, (ys.drop (2 + k)).length, hln, ys.drop (2 + k), a', h', rfl, As, Qs, ⟨vc, rcs, scs, lc', nc⟩, (Fd.trans fs).cut (fun c hc hlt => by simp at hc; omega), rfl, by omega, fun x hx => hyb x (List.mem_of_mem_drop hx), capP_u32 bt ua hn, ?_⟩
  rw [hpar, if_neg bad, if_neg (by omega), hn]
  exact parP_fuel (by omega) (by omega)
end Go.Proofs.Ytbdejnnbpdgjlaa.Ax
