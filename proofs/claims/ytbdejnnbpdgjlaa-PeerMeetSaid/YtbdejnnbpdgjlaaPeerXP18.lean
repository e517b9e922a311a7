/- Contracts of functions over the abstract machine. No conditions: lemmas alone. -/
import Derived.Test.YtbdejnnbpdgjlaaPeerXLibD
import Derived.Test.YtbdejnnbpdgjlaaPeerXP0
import Derived.Test.YtbdejnnbpdgjlaaPeerXP14
namespace Go.Proofs.Ytbdejnnbpdgjlaa.Ax
open Go Go.RowKit
open Nat renaming reduceAdd → ν1, reduceMul → ν2, reduceLeDiff → ν3, reduceLT → ν4, reduceSub → ν5
open Int renaming reduceNe → ζ1, reduceEq → ζ2, reduceLE → ζ3, reduceLT → ζ4, reduceToNat → ζ5
set_option linter.unusedVariables false
set_option linter.unusedSimpArgs false
set_option maxRecDepth 100000
set_option maxHeartbeats 20000000
attribute [local irreducible] thenA blockA scopeA retA AL AW AD ADL AH clrK CallA apure aload bload appK ptrK fnK ares szOk planOk okOps
theorem capP_fuel : ∀ {f g : Nat} {v : List Int} {a : Int} {h : Bool}, v.length < f → v.length < g → capP f v a h = capP g v a h
 | 0, _, _, _, _, h, _ => absurd h (Nat.not_lt_zero _)
 | _, 0, _, _, _, _, h => absurd h (Nat.not_lt_zero _)
 | f + 1, g + 1, v, a, h, h1, h2 => by
  unfold capP
  split
  ·rfl
  ·rename_i hne
   have hp := List.length_pos_iff.2 hne
   split
   ·rfl
   ·exact capP_fuel (by rw [List.length_drop]; omega) (by rw [List.length_drop]; omega)
def CapJ (M : Mem) (p lo : Nat) (R : Option (Int × Bool)) (n : Nat) (va vh : Value) (M' : Mem) : Prop := ∃ ys sh a h, va = .int .u32 a ∧ vh = .bool h ∧ RdA M' p lo ys sh ∧ Fr M M' [p] ∧ ys.length ≤ 100000 ∧ (∀ x ∈ ys, 0 ≤ x ∧ x ≤ 255) ∧
 ((sh = false ∧ n = ys.length ∧ R = capP (ys.length + 1) ys a h) ∨ (sh = true ∧ n = 0 ∧ R = none))
theorem cap_spec (p lo : Nat) (xs : List Int) (asn : Int) (has : Bool) (M : Mem) (hr : RdA M p lo xs false) (hb : ∀ x ∈ xs, 0 ≤ x ∧ x ≤ 255) (hl : xs.length ≤ 100000) :
  CallA Try.prog 86 [.pointer (some ⟨p, 0, none⟩), .int .u32 asn, .bool has] M fun r M' => Fr M M' [p] ∧ ∃ ys sh, RdA M' p lo ys sh ∧ ∃ a h, r = .tuple ⟨[.int .u32 a, .bool h]⟩ ∧
   ((sh = true ∧ capP (xs.length + 1) xs asn has = none) ∨ (sh = false ∧ capP (xs.length + 1) xs asn has = some (a, h))) := by
 generalize hR : capP (xs.length + 1) xs asn has = R
 (refine CallA.of_body Try.func86 rfl (by rfl) ?_; simp only [Try.ntmps86, List.length_cons, List.length_nil, List.replicate, List.cons_append, List.nil_append, Nat.reduceSub, Nat.reduceAdd])
 (repeat (first | refine st ?_ | refine σa ?_ | (refine σb ?_; simp (disch := omega) only [push_cast, ↓reduceIte, reduceCtorEq, ν1, ν2, ν3, ν4, ν5, ζ1, ζ2, ζ3, ζ4, ζ5])))
 refine AW.loopF [1, 2, 8, 9, 10, 11, 12, 13, 14, 15, 16, 17, 18, 19, 20, 21, 22, 23, 24, 25, 26, 27, 28, 29, 30, 31, 32, 33, 34, 35, 36, 37, 38, 39, 40, 41, 42, 43, 44, 45, 46, 47] (fun n g M' => CapJ M p lo R n (g 1) (g 2) M') xs.length ?_ ?_
 ·exact ⟨xs, false, asn, has, rfl, rfl, hr, (Fr.refl M).cut (by simp), hl, hb, .inl ⟨rfl, rfl, hR.symm⟩⟩
 rintro n g M1 ⟨ys, sh, a, h, h1, h2, hR1, hF, hyl, hyb, hS⟩
 simp (disch := omega) only [push_cast, ↓reduceIte, reduceCtorEq, Nat.reduceAdd, Nat.reduceMul, Nat.reduceLeDiff, Nat.reduceLT, Nat.reduceSub, Int.reduceNe, Int.reduceEq, Int.reduceLE, Int.reduceLT, Int.reduceToNat, h1, h2]
 have hR1' := hR1
 obtain ⟨v, hat, hv, hlo, hvl⟩ := hR1'
 have hpv : p ∉ blkOf v := fun h => by have := hvl p h; omega
 have sv := hv.isSl
 have lv := hv.lnI
 by_cases hne : ys = []
 ·have d : decide ((ys.length : Int) > 0) = false := decide_eq_false (by rw [hne]; simp)
  (repeat (first | refine st ?_ | refine σa ?_ | (refine σb ?_; simp (disch := omega) only [push_cast, ↓reduceIte, reduceCtorEq, ν1, ν2, ν3, ν4, ν5, ζ1, ζ2, ζ3, ζ4, ζ5, hat.ld, sv, lv, d, buildE])))
  ((first | refine retA.ret (by rfl) ?_ | refine retA.normal (by rfl) ?_); simp (disch := omega) only [push_cast, ↓reduceIte, reduceCtorEq, Nat.reduceAdd, Nat.reduceMul, Nat.reduceLeDiff, Nat.reduceLT, Nat.reduceSub, Int.reduceNe, Int.reduceEq, Int.reduceLE, Int.reduceLT, Int.reduceToNat])
  refine ⟨hF, ys, sh, hR1, a, h, rfl, ?_⟩
  rcases hS with ⟨e1, e2, e3⟩ | ⟨e1, e2, e3⟩
  ·exact .inr ⟨e1, by rw [e3, hne]; rfl⟩
  ·exact .inl ⟨e1, e3⟩
 have hpos := List.length_pos_iff.2 hne
 have d : decide ((ys.length : Int) > 0) = true := decide_eq_true (by omega)
 rcases hS with ⟨rfl, rfl, hRy⟩ | ⟨rfl, rfl, hRn⟩
 rotate_left
 ·(repeat (first | refine st ?_ | refine σa ?_ | (refine σb ?_; simp (disch := omega) only [push_cast, ↓reduceIte, reduceCtorEq, ν1, ν2, ν3, ν4, ν5, ζ1, ζ2, ζ3, ζ4, ζ5, hat.ld, sv, lv, d, Bool.not_true, Bool.not_false, buildE])))
  ((first | refine retA.ret (by rfl) ?_ | refine retA.normal (by rfl) ?_); simp (disch := omega) only [push_cast, ↓reduceIte, reduceCtorEq, Nat.reduceAdd, Nat.reduceMul, Nat.reduceLeDiff, Nat.reduceLT, Nat.reduceSub, Int.reduceNe, Int.reduceEq, Int.reduceLE, Int.reduceLT, Int.reduceToNat])
  exact ⟨hF, ys, true, hR1, a, h, rfl, .inl ⟨rfl, hRn⟩⟩
 (repeat (first | refine st ?_ | refine σa ?_ | (refine σb ?_; simp (disch := omega) only [push_cast, ↓reduceIte, reduceCtorEq, ν1, ν2, ν3, ν4, ν5, ζ1, ζ2, ζ3, ζ4, ζ5, hat.ld, sv, lv, d, Bool.not_true, Bool.not_false, buildE])))
 refine (roct_spec p lo ys false M1 hR1 hyb).mono ?_
 rintro r M2 ⟨f2, r2, rfl⟩
 (repeat (first | refine st ?_ | refine σa ?_ | (refine σb ?_; simp (disch := omega) only [push_cast, ↓reduceIte, reduceCtorEq, ν1, ν2, ν3, ν4, ν5, ζ1, ζ2, ζ3, ζ4, ζ5])))
 refine (roct_spec p lo _ _ M2 r2 (fun x hx => hyb x (List.mem_of_mem_drop hx))).mono ?_
 rintro r M3 ⟨f3, r3, rfl⟩
 have hb2 : ∀ x ∈ (ys.drop 1).drop 1, 0 ≤ x ∧ x ≤ 255 := fun x hx => hyb x (List.mem_of_mem_drop (List.mem_of_mem_drop hx))
 have e1 : (ys.drop 1).getD 0 0 = ys.getD 1 0 := by simp [List.getD_eq_getElem?_getD]
 have e2 : (ys.drop 1).drop 1 = ys.drop 2 := by rw [List.drop_drop]
 obtain ⟨S2, hS2⟩ : ∃ S2, S2 = (false || decide (ys.length < 1) || decide ((ys.drop 1).length < 1)) := ⟨_, rfl⟩
 rw [← hS2, e2] at r3
 rw [e2] at hb2
 have b0 := getD_byte hyb 0
 have b1 := getD_byte hyb 1
 obtain ⟨k, hk⟩ : ∃ k : Nat, ys.getD 1 0 = k := ⟨(ys.getD 1 0).toNat, by have := b1.1; omega⟩
 obtain ⟨z, hz⟩ : ∃ z, z = ys.getD 0 0 := ⟨_, rfl⟩
 have b11 := b1.1
 have b12 := b1.2
 rw [hk] at e1 b11 b12
 rw [e1, ← hz]
 have hkn : (ys.getD 1 0).toNat = k := by omega
 (repeat (first | refine st ?_ | refine σa ?_ | (refine σb ?_; simp (disch := omega) only [push_cast, ↓reduceIte, reduceCtorEq, ν1, ν2, ν3, ν4, ν5, ζ1, ζ2, ζ3, ζ4, ζ5])))
 refine (rtake_spec p lo k _ _ M3 r3 (by omega)).mono ?_
 rintro r M4 ⟨f4, r4, s4, hp4⟩
 have F4 : Fr M M4 [p] := (((hF.trans f2).trans f3).trans f4).cut (fun b hb _ => by simpa using hb)
 obtain ⟨S, hS⟩ : ∃ S, S = (S2 || decide ((ys.drop 2).length < k)) := ⟨_, rfl⟩
 rw [← hS] at r4
 have r4' := r4
 obtain ⟨v4, at4, sl4, lo4, vl4⟩ := r4'
 have no4 : p ∉ blkOf v4 := fun h => by have := vl4 p h; omega
 have hdd : (ys.drop 2).drop k = ys.drop (2 + k) := by rw [List.drop_drop]
 have hcap : capP (ys.length + 1) ys a h = if ys.length < 2 ∨ ys.length - 2 < k ∨ (z = 65 ∧ (k : Int) ≠ 4) then none else capP ys.length (ys.drop (2 + k)) (if z = 65 then wordAt ys 2 else a) (if z = 65 then true else h) := by
  rw [capP, if_neg hne, ← hz, hk, Int.toNat_natCast]
 by_cases bad : ys.length < 2 ∨ ys.length - 2 < k
 ·have hSt : S = true := by
   rw [hS, hS2]
   simp only [List.length_drop]
   by_cases q1 : ys.length < 2
   ·have : decide (ys.length - 1 < 1) = true := decide_eq_true (by omega)
    rw [this]; simp
   ·have : decide (ys.length - 2 < k) = true := decide_eq_true (by omega)
    rw [this]; simp
  have hn : R = none := by rw [hRy, hcap, if_pos (by rcases bad with h | h; exact .inl h; exact .inr (.inl h))]
  rw [hSt] at at4 r4
  have J4 : CapJ M p lo R 0 (.int .u32 a) (.bool h) M4 := ⟨_, true, a, h, rfl, rfl, r4, F4, by rw [List.length_drop, List.length_drop]; omega, fun x hx => hb2 x (List.mem_of_mem_drop hx), .inr ⟨rfl, rfl, hn⟩⟩
  by_cases c : z = 65
  ·have dc : decide (z = 65) = true := decide_eq_true c
   (repeat (first | refine st ?_ | refine σa ?_ | (refine σb ?_; simp (disch := omega) only [push_cast, ↓reduceIte, reduceCtorEq, ν1, ν2, ν3, ν4, ν5, ζ1, ζ2, ζ3, ζ4, ζ5, dc, at4.ld, Bool.not_true, Bool.not_false, buildE])))
   exact ⟨rfl, 0, hpos, J4⟩
  ·have dc : decide (z = 65) = false := decide_eq_false c
   (repeat (first | refine st ?_ | refine σa ?_ | (refine σb ?_; simp (disch := omega) only [push_cast, ↓reduceIte, reduceCtorEq, ν1, ν2, ν3, ν4, ν5, ζ1, ζ2, ζ3, ζ4, ζ5, dc, at4.ld, Bool.not_true, Bool.not_false, buildE])))
   exact ⟨rfl, 0, hpos, J4⟩
 have hSf : S = false := by
  rw [hS, hS2]
  simp only [List.length_drop]
  rw [decide_eq_false (by omega), decide_eq_false (by omega), decide_eq_false (by omega)]; rfl
 rw [hSf] at at4 r4
 rw [hdd] at r4
 have hcap2 : ∀ a' h', capP ys.length (ys.drop (2 + k)) a' h' = capP ((ys.drop (2 + k)).length + 1) (ys.drop (2 + k)) a' h' := fun a' h' => capP_fuel (by rw [List.length_drop]; omega) (by omega)
 have ld : (ys.drop (2 + k)).length < ys.length := by rw [List.length_drop]; omega
 have hb4 : ∀ x ∈ ys.drop (2 + k), 0 ≤ x ∧ x ≤ 255 := fun x hx => hyb x (List.mem_of_mem_drop hx)
 by_cases c : z = 65
 rotate_left
 ·have dc : decide (z = 65) = false := decide_eq_false c
  (repeat (first | refine st ?_ | refine σa ?_ | (refine σb ?_; simp (disch := omega) only [push_cast, ↓reduceIte, reduceCtorEq, ν1, ν2, ν3, ν4, ν5, ζ1, ζ2, ζ3, ζ4, ζ5, dc, at4.ld, Bool.not_true, Bool.not_false, buildE])))
  exact ⟨rfl, _, ld, ys.drop (2 + k), false, a, h, rfl, rfl, r4, F4, by omega, hb4, .inl ⟨rfl, rfl, by rw [hRy, hcap, if_neg (by omega), hcap2, if_neg c, if_neg c]⟩⟩
 have dc : decide (z = 65) = true := decide_eq_true c
 by_cases c4 : k = 4
 rotate_left
 ·have d4 : decide ((k : Int) = 4) = false := decide_eq_false (by omega)
  have hn : R = none := by rw [hRy, hcap, if_pos (.inr (.inr ⟨c, by omega⟩))]
  (repeat (first | refine st ?_ | refine σa ?_ | (refine σb ?_; simp (disch := omega) only [push_cast, ↓reduceIte, reduceCtorEq, ν1, ν2, ν3, ν4, ν5, ζ1, ζ2, ζ3, ζ4, ζ5, dc, d4, at4.ld, at4.get, at4.same, List.drop_nil, List.append_nil, Bool.not_true, Bool.not_false, boxE])))
  rw [hdd] at sl4
  have Fs := Fr.set M4 p (.box [v4, .bool true])
  have no4' : ∀ b ∈ blkOf v4, b ∉ [p] := fun b hb hc => no4 (by simp at hc; rw [← hc]; exact hb)
  exact ⟨rfl, 0, hpos, ys.drop (2 + k), true, a, h, rfl, rfl, ⟨v4, at4.set _, sl4.keep Fs no4', lo4, vl4⟩, (F4.trans Fs).cut (fun b hb _ => by simpa using hb), by omega, hb4, .inr ⟨rfl, rfl, hn⟩⟩
 ·have d4 : decide ((k : Int) = 4) = true := decide_eq_true (by omega)
  have ew : wordAt (takeL k (ys.drop 2)) 0 = wordAt ys 2 := by
   unfold takeL
   rw [if_neg (by rw [List.length_drop]; omega), c4]
   simp [wordAt, List.getD_eq_getElem?_getD, List.getElem?_take, List.getElem?_drop]
  (repeat (first | refine st ?_ | refine σa ?_ | (refine σb ?_; simp (disch := omega) only [push_cast, ↓reduceIte, reduceCtorEq, ν1, ν2, ν3, ν4, ν5, ζ1, ζ2, ζ3, ζ4, ζ5, dc, d4, at4.ld, Bool.not_true, Bool.not_false, buildE])))
  refine (quad_spec r _ M4 s4 (by rw [takeL_length]; omega) (takeL_byte hb2)).mono ?_
  rintro r M5 ⟨rfl, rfl⟩
  rw [ew]
  (repeat (first | refine st ?_ | refine σa ?_ | (refine σb ?_; simp (disch := omega) only [push_cast, ↓reduceIte, reduceCtorEq, ν1, ν2, ν3, ν4, ν5, ζ1, ζ2, ζ3, ζ4, ζ5])))
  exact ⟨rfl, _, ld, ys.drop (2 + k), false, wordAt ys 2, true, rfl, rfl, r4, F4, by omega, hb4, .inl ⟨rfl, rfl, by rw [hRy, hcap, if_neg (by omega), hcap2, if_pos c, if_pos c]⟩⟩
end Go.Proofs.Ytbdejnnbpdgjlaa.Ax
