/- Contracts of functions over the abstract machine. No conditions: lemmas alone. -/
import Derived.Test.YtbdejnnbpdgjlaaMsgXLibD
import Derived.Test.YtbdejnnbpdgjlaaMsgXP0
import Derived.Test.YtbdejnnbpdgjlaaMsgXP12
import Derived.Test.YtbdejnnbpdgjlaaMsgXP3
import Derived.Test.YtbdejnnbpdgjlaaMsgXP11
import Derived.Test.YtbdejnnbpdgjlaaMsgXP8
namespace Go.Proofs.Ytbdejnnbpdgjlaa.Ax
open Go Go.RowKit
open Nat renaming reduceAdd → ν1, reduceMul → ν2, reduceLeDiff → ν3, reduceLT → ν4, reduceSub → ν5
open Int renaming reduceNe → ζ1, reduceEq → ζ2, reduceLE → ζ3, reduceLT → ζ4, reduceToNat → ζ5
set_option linter.unusedVariables false
set_option linter.unusedSimpArgs false
set_option maxRecDepth 100000
set_option maxHeartbeats 20000000
attribute [local irreducible] thenA blockA scopeA retA AL AW AD ADL AH clrK CallA apure aload bload appK ptrK fnK ares szOk planOk okOps
theorem capP_fuel : ∀ {f g : Nat} {v : List Int} {a : Int} {h : Bool}, v.length < f → v.length < g → capP f v a h = capP g v a h
  | 0, _, _, _, _, h, _ => absurd h (Nat.not_lt_zero _)
  | _, 0, _, _, _, _, h => absurd h (Nat.not_lt_zero _)
  | f + 1, g + 1, v, a, h, h1, h2 => by
    unfold capP
    split
    · rfl
    · rename_i hne
      have hp := List.length_pos_iff.2 hne
      split
      · rfl
      · exact capP_fuel (by rw [List.length_drop]; omega) (by rw [List.length_drop]; omega)
/-- What holds at the head of the loop over capabilities. -/
def CapJ (M : Mem) (p lo : Nat) (R : Option (Int × Bool)) (n : Nat) (va vh : Value) (M' : Mem) : Prop := ∃ ys sh a h, va = .int .u32 a ∧ vh = .bool h ∧ RdA M' p lo ys sh ∧ Fr M M' [p] ∧ ys.length ≤ 100000 ∧ (∀ x ∈ ys, 0 ≤ x ∧ x ≤ 255) ∧
  ((sh = false ∧ n = ys.length ∧ R = capP (ys.length + 1) ys a h) ∨ (sh = true ∧ n = 0 ∧ R = none))
theorem cap_spec (p lo : Nat) (xs : List Int) (asn : Int) (has : Bool) (M : Mem) (hr : RdA M p lo xs false) (hb : ∀ x ∈ xs, 0 ≤ x ∧ x ≤ 255) (hl : xs.length ≤ 100000) :
    CallA Try.prog 86 [.pointer (some ⟨p, 0, none⟩), .int .u32 asn, .bool has] M fun r M' => Fr M M' [p] ∧ ∃ ys sh, RdA M' p lo ys sh ∧ ∃ a h, r = .tuple ⟨[.int .u32 a, .bool h]⟩ ∧
      ((sh = true ∧ capP (xs.length + 1) xs asn has = none) ∨ (sh = false ∧ capP (xs.length + 1) xs asn has = some (a, h))) := by
  generalize hR : capP (xs.length + 1) xs asn has = R
  (refine CallA.of_body Try.func86 rfl (by rfl) ?_; simp only [Try.ntmps86, List.length_cons, List.length_nil, List.replicate, List.cons_append, List.nil_append, Nat.reduceSub, Nat.reduceAdd])
  (repeat (first | refine st ?_ | refine σa ?_ | (refine σb ?_; simp (disch := omega) only [push_cast, ↓reduceIte, reduceCtorEq, ν1, ν2, ν3, ν4, ν5, ζ1, ζ2, ζ3, ζ4, ζ5])))
  refine AW.loopF [1, 2, 8, 9, 10, 11, 12, 13, 14, 15, 16, 17, 18, 19, 20, 21, 22, 23, 24, 25, 26, 27, 28, 29, 30, 31, 32, 33, 34, 35, 36, 37, 38, 39, 40, 41, 42, 43, 44, 45, 46, 47] (fun n g M' => CapJ M p lo R n (g 1) (g 2) M') xs.length ?_ ?_
  · exact ⟨xs, false, asn, has, rfl, rfl, hr, (Fr.refl M).cut (by simp), hl, hb, .inl ⟨rfl, rfl, hR.symm⟩⟩
  rintro n g M1 ⟨ys, sh, a, h, h1, h2, hR1, hF, hyl, hyb, hS⟩
  simp (disch := omega) only [push_cast, ↓reduceIte, reduceCtorEq, Nat.reduceAdd, Nat.reduceMul, Nat.reduceLeDiff, Nat.reduceLT, Nat.reduceSub, Int.reduceNe, Int.reduceEq, Int.reduceLE, Int.reduceLT, Int.reduceToNat, h1, h2]
  have hR1' := hR1
  obtain ⟨v, hat, hv, hlo, hvl⟩ := hR1'
  have hpv : p ∉ blkOf v := fun h => by have := hvl p h; omega
  have sv := hv.isSl
  have lv := hv.lnI
  by_cases hne : ys = []
  · have d : decide ((ys.length : Int) > 0) = false := decide_eq_false (by rw [hne]; simp)
    (repeat (first | refine st ?_ | refine σa ?_ | (refine σb ?_; simp (disch := omega) only [push_cast, ↓reduceIte, reduceCtorEq, ν1, ν2, ν3, ν4, ν5, ζ1, ζ2, ζ3, ζ4, ζ5, hat.ld, sv, lv, d, buildE])))
    ((first | refine retA.ret (by rfl) ?_ | refine retA.normal (by rfl) ?_); simp (disch := omega) only [push_cast, ↓reduceIte, reduceCtorEq, Nat.reduceAdd, Nat.reduceMul, Nat.reduceLeDiff, Nat.reduceLT, Nat.reduceSub, Int.reduceNe, Int.reduceEq, Int.reduceLE, Int.reduceLT, Int.reduceToNat])
    refine ⟨hF, ys, sh, hR1, a, h, rfl, ?_⟩
    rcases hS with ⟨e1, e2, e3⟩ | ⟨e1, e2, e3⟩
    · exact .inr ⟨e1, by rw [e3, hne]; rfl⟩
    · exact .inl ⟨e1, e3⟩
  have hpos := List.length_pos_iff.2 hne
  have d : decide ((ys.length : Int) > 0) = true := decide_eq_true (by omega)
  rcases hS with ⟨rfl, rfl, hRy⟩ | ⟨rfl, rfl, hRn⟩
  rotate_left
  · (repeat (first | refine st ?_ | refine σa ?_ | (refine σb ?_; simp (disch := omega) only [push_cast, ↓reduceIte, reduceCtorEq, ν1, ν2, ν3, ν4, ν5, ζ1, ζ2, ζ3, ζ4, ζ5, hat.ld, sv, lv, d, Bool.not_true, Bool.not_false, buildE])))
    ((first | refine retA.ret (by rfl) ?_ | refine retA.normal (by rfl) ?_); simp (disch := omega) only [push_cast, ↓reduceIte, reduceCtorEq, Nat.reduceAdd, Nat.reduceMul, Nat.reduceLeDiff, Nat.reduceLT, Nat.reduceSub, Int.reduceNe, Int.reduceEq, Int.reduceLE, Int.reduceLT, Int.reduceToNat])
    exact ⟨hF, ys, true, hR1, a, h, rfl, .inl ⟨rfl, hRn⟩⟩
  (repeat (first | refine st ?_ | refine σa ?_ | (refine σb ?_; simp (disch := omega) only [push_cast, ↓reduceIte, reduceCtorEq, ν1, ν2, ν3, ν4, ν5, ζ1, ζ2, ζ3, ζ4, ζ5, hat.ld, sv, lv, d, Bool.not_true, Bool.not_false, buildE])))
  refine (roct_spec p lo ys false M1 hR1 hyb).mono ?_
  rintro r M2 ⟨f2, r2, rfl⟩
  (repeat (first | refine st ?_ | refine σa ?_ | (refine σb ?_; simp (disch := omega) only [push_cast, ↓reduceIte, reduceCtorEq, ν1, ν2, ν3, ν4, ν5, ζ1, ζ2, ζ3, ζ4, ζ5])))
  refine (roct_spec p lo _ _ M2 r2 (fun x hx => hyb x (List.mem_of_mem_drop hx))).mono ?_
  rintro r M3 ⟨f3, r3, rfl⟩
  have hb2 : ∀ x ∈ (ys.drop 1).drop 1, 0 ≤ x ∧ x ≤ 255 := fun x hx => hyb x (List.mem_of_mem_drop (List.mem_of_mem_drop hx))
  have e1 : (ys.drop 1).getD 0 0 = ys.getD 1 0 := by simp [List.getD_eq_getElem?_getD]
  have e2 : (ys.drop 1).drop 1 = ys.drop 2 := by rw [List.drop_drop]
  obtain ⟨S2, hS2⟩ : ∃ S2, S2 = (false || decide (ys.length < 1) || decide ((ys.drop 1).length < 1)) := ⟨_, rfl⟩
  rw [← hS2, e2] at r3
  rw [e2] at hb2
  have b0 := getD_byte hyb 0
  have b1 := getD_byte hyb 1
  obtain ⟨k, hk⟩ : ∃ k : Nat, ys.getD 1 0 = k := ⟨(ys.getD 1 0).toNat, by have := b1.1; omega⟩
  obtain ⟨z, hz⟩ : ∃ z, z = ys.getD 0 0 := ⟨_, rfl⟩
  have b11 := b1.1
  have b12 := b1.2
  rw [hk] at e1 b11 b12
  rw [e1, ← hz]
  have hkn : (ys.getD 1 0).toNat = k := by omega
  (repeat (first | refine st ?_ | refine σa ?_ | (refine σb ?_; simp (disch := omega) only [push_cast, ↓reduceIte, reduceCtorEq, ν1, ν2, ν3, ν4, ν5, ζ1, ζ2, ζ3, ζ4, ζ5])))
  refine (rtake_spec p lo k _ _ M3 r3 (by omega)).mono ?_
  rintro r M4 ⟨f4, r4, s4, hp4⟩
  have F4 : Fr M M4 [p] := (((hF.trans f2).trans f3).trans f4).cut (fun b hb _ => by simpa using hb)
  obtain ⟨S, hS⟩ : ∃ S, S = (S2 || decide ((ys.drop 2).length < k)) := ⟨_, rfl⟩
  rw [← hS] at r4
  have r4' := r4
  obtain ⟨v4, at4, sl4, lo4, vl4⟩ := r4'
  have no4 : p ∉ blkOf v4 := fun h => by have := vl4 p h; omega
  have hdd : (ys.drop 2).drop k = ys.drop (2 + k) := by rw [List.drop_drop]
  have hcap : capP (ys.length + 1) ys a h = if ys.length < 2 ∨ ys.length - 2 < k ∨ (z = 65 ∧ (k : Int) ≠ 4) then none else capP ys.length (ys.drop (2 + k)) (if z = 65 then wordAt ys 2 else a) (if z = 65 then true else h) := by
    rw [capP, if_neg hne, ← hz, hk, Int.toNat_natCast]
  by_cases bad : ys.length < 2 ∨ ys.length - 2 < k
  · have hSt : S = true := by
      rw [hS, hS2]
      simp only [List.length_drop]
      by_cases q1 : ys.length < 2
      · have : decide (ys.length - 1 < 1) = true := decide_eq_true (by omega)
        rw [this]; simp
      · have : decide (ys.length - 2 < k) = true := decide_eq_true (by omega)
        rw [this]; simp
    have hn : R = none := by rw [hRy, hcap, if_pos (by rcases bad with h | h; exact .inl h; exact .inr (.inl h))]
    rw [hSt] at at4 r4
    have J4 : CapJ M p lo R 0 (.int .u32 a) (.bool h) M4 := ⟨_, true, a, h, rfl, rfl, r4, F4, by rw [List.length_drop, List.length_drop]; omega, fun x hx => hb2 x (List.mem_of_mem_drop hx), .inr ⟨rfl, rfl, hn⟩⟩
    by_cases c : z = 65
    · have dc : decide (z = 65) = true := decide_eq_true c
      (repeat (first | refine st ?_ | refine σa ?_ | (refine σb ?_; simp (disch := omega) only [push_cast, ↓reduceIte, reduceCtorEq, ν1, ν2, ν3, ν4, ν5, ζ1, ζ2, ζ3, ζ4, ζ5, dc, at4.ld, Bool.not_true, Bool.not_false, buildE])))
      exact ⟨rfl, 0, hpos, J4⟩
    · have dc : decide (z = 65) = false := decide_eq_false c
      (repeat (first | refine st ?_ | refine σa ?_ | (refine σb ?_; simp (disch := omega) only [push_cast, ↓reduceIte, reduceCtorEq, ν1, ν2, ν3, ν4, ν5, ζ1, ζ2, ζ3, ζ4, ζ5, dc, at4.ld, Bool.not_true, Bool.not_false, buildE])))
      exact ⟨rfl, 0, hpos, J4⟩
  have hSf : S = false := by
    rw [hS, hS2]
    simp only [List.length_drop]
    rw [decide_eq_false (by omega), decide_eq_false (by omega), decide_eq_false (by omega)]; rfl
  rw [hSf] at at4 r4
  rw [hdd] at r4
  have hcap2 : ∀ a' h', capP ys.length (ys.drop (2 + k)) a' h' = capP ((ys.drop (2 + k)).length + 1) (ys.drop (2 + k)) a' h' := fun a' h' => capP_fuel (by rw [List.length_drop]; omega) (by omega)
  have ld : (ys.drop (2 + k)).length < ys.length := by rw [List.length_drop]; omega
  have hb4 : ∀ x ∈ ys.drop (2 + k), 0 ≤ x ∧ x ≤ 255 := fun x hx => hyb x (List.mem_of_mem_drop hx)
  by_cases c : z = 65
  rotate_left
  · have dc : decide (z = 65) = false := decide_eq_false c
    (repeat (first | refine st ?_ | refine σa ?_ | (refine σb ?_; simp (disch := omega) only [push_cast, ↓reduceIte, reduceCtorEq, ν1, ν2, ν3, ν4, ν5, ζ1, ζ2, ζ3, ζ4, ζ5, dc, at4.ld, Bool.not_true, Bool.not_false, buildE])))
    exact ⟨rfl, _, ld, ys.drop (2 + k), false, a, h, rfl, rfl, r4, F4, by omega, hb4, .inl ⟨rfl, rfl, by rw [hRy, hcap, if_neg (by omega), hcap2, if_neg c, if_neg c]⟩⟩
  have dc : decide (z = 65) = true := decide_eq_true c
  by_cases c4 : k = 4
  rotate_left
  · have d4 : decide ((k : Int) = 4) = false := decide_eq_false (by omega)
    have hn : R = none := by rw [hRy, hcap, if_pos (.inr (.inr ⟨c, by omega⟩))]
    (repeat (first | refine st ?_ | refine σa ?_ | (refine σb ?_; simp (disch := omega) only [push_cast, ↓reduceIte, reduceCtorEq, ν1, ν2, ν3, ν4, ν5, ζ1, ζ2, ζ3, ζ4, ζ5, dc, d4, at4.ld, at4.get, at4.same, List.drop_nil, List.append_nil, Bool.not_true, Bool.not_false, boxE])))
    rw [hdd] at sl4
    have Fs := Fr.set M4 p (.box [v4, .bool true])
    have no4' : ∀ b ∈ blkOf v4, b ∉ [p] := fun b hb hc => no4 (by simp at hc; rw [← hc]; exact hb)
    exact ⟨rfl, 0, hpos, ys.drop (2 + k), true, a, h, rfl, rfl, ⟨v4, at4.set _, sl4.keep Fs no4', lo4, vl4⟩, (F4.trans Fs).cut (fun b hb _ => by simpa using hb), by omega, hb4, .inr ⟨rfl, rfl, hn⟩⟩
  · have d4 : decide ((k : Int) = 4) = true := decide_eq_true (by omega)
    have ew : wordAt (takeL k (ys.drop 2)) 0 = wordAt ys 2 := by
      unfold takeL
      rw [if_neg (by rw [List.length_drop]; omega), c4]
      simp [wordAt, List.getD_eq_getElem?_getD, List.getElem?_take, List.getElem?_drop]
    (repeat (first | refine st ?_ | refine σa ?_ | (refine σb ?_; simp (disch := omega) only [push_cast, ↓reduceIte, reduceCtorEq, ν1, ν2, ν3, ν4, ν5, ζ1, ζ2, ζ3, ζ4, ζ5, dc, d4, at4.ld, Bool.not_true, Bool.not_false, buildE])))
    refine (quad_spec r _ M4 s4 (by rw [takeL_length]; omega) (takeL_byte hb2)).mono ?_
    rintro r M5 ⟨rfl, rfl⟩
    rw [ew]
    (repeat (first | refine st ?_ | refine σa ?_ | (refine σb ?_; simp (disch := omega) only [push_cast, ↓reduceIte, reduceCtorEq, ν1, ν2, ν3, ν4, ν5, ζ1, ζ2, ζ3, ζ4, ζ5])))
    exact ⟨rfl, _, ld, ys.drop (2 + k), false, wordAt ys 2, true, rfl, rfl, r4, F4, by omega, hb4, .inl ⟨rfl, rfl, by rw [hRy, hcap, if_neg (by omega), hcap2, if_pos c, if_pos c]⟩⟩

end Go.Proofs.Ytbdejnnbpdgjlaa.Ax

namespace Go.Proofs.Ytbdejnnbpdgjlaa.Ax
open Go Go.RowKit
open Nat renaming reduceAdd → ν1, reduceMul → ν2, reduceLeDiff → ν3, reduceLT → ν4, reduceSub → ν5
open Int renaming reduceNe → ζ1, reduceEq → ζ2, reduceLE → ζ3, reduceLT → ζ4, reduceToNat → ζ5
set_option linter.unusedVariables false
set_option linter.unusedSimpArgs false
set_option maxRecDepth 100000
set_option maxHeartbeats 20000000
attribute [local irreducible] thenA blockA scopeA retA AL AW AD ADL AH clrK CallA apure aload bload appK ptrK fnK ares szOk planOk okOps
theorem nz_next : Extern.findNext Try.f101 = none := by kernel_rfl
theorem nz_find : Extern.find Try.f101 = some (Extern.BytealgMakeNoZero.makeNoZero #[3] #[39]) := by kernel_rfl
theorem nz_fn : Try.prog.funcs[101]? = some Try.f101 := by kernel_rfl
theorem aslice_full {b n : Nat} (h : n < capLow) : aslice (.slice (some ⟨b, 0, none⟩) n (capLow + n)) 1 none (some (.int .i64 (n : Int))) (some (.int .i64 (n : Int))) = some (.slice (some ⟨b, 0, none⟩) n n) := by
  have := capLb_add n
  simp [aslice, natOf, isSl, sln, scp, subsl, this, h]
theorem capLb_small {n : Nat} (h : n < 4611686018427387904) : capLb n = n := by exact if_pos h
theorem capSub_small {n l : Nat} (h : n < 4611686018427387904) : capSub n l = n - l := by exact if_pos h
theorem cap16 : 16 ≤ capLb 16 := Nat.le_of_eq (capLb_small (n := 16) (by omega)).symm

end Go.Proofs.Ytbdejnnbpdgjlaa.Ax

namespace Go.Proofs.Ytbdejnnbpdgjlaa.Ax
open Go Go.RowKit
open Nat renaming reduceAdd → ν1, reduceMul → ν2, reduceLeDiff → ν3, reduceLT → ν4, reduceSub → ν5
open Int renaming reduceNe → ζ1, reduceEq → ζ2, reduceLE → ζ3, reduceLT → ζ4, reduceToNat → ζ5
set_option linter.unusedVariables false
set_option linter.unusedSimpArgs false
set_option maxRecDepth 100000
set_option maxHeartbeats 20000000
attribute [local irreducible] thenA blockA scopeA retA AL AW AD ADL AH clrK CallA apure aload bload appK ptrK fnK ares szOk planOk okOps
theorem σb_Ms2 {g n : Prop} (k : n) (h : n → g := by first | exact AL.ld rfl | exact AL.bx rfl | exact AL.al | exact AL.lt rfl | exact AL.st rfl rfl | exact AL.ap rfl rfl | exact AL.ca rfl | exact AL.slW (by kernel_rfl) rfl | exact AL.pu rfl | exact AL.guF rfl (by first | rfl | assumption) | exact AL.skip rfl) : g := h k
theorem a129_Ms2 {g n : Prop} (k : n) (h : n → g := by first | exact AL.mk rfl | exact AL.cp rfl rfl) : g := h k
theorem a100_Ms2 {g n : Prop} (k : n) (h : n → g := by first | exact AL.mk rfl | exact AL.cp rfl rfl) : g := h k
theorem σy_Ms2 {g n : Prop} (k : n) (h : n → g := by first | exact AL.ld rfl | exact AL.bx rfl | exact AL.al | exact AL.lt rfl | exact AL.st rfl rfl | exact AL.ap rfl rfl | exact AL.slW (by kernel_rfl) rfl | exact AL.guF rfl (by first | rfl | assumption) | exact AL.skip rfl) : g := h k
theorem d62_Ms2 {g n : Prop} (k : n) (h : n → g := by first | exact AW.dr (id := 20) (by rfl) [0, 1, 2, 3, 4, 5, 6, 7, 8, 9] (by kernel_rfl) (by kernel_rfl)) : g := h k
theorem a62_Ms2 {g n : Prop} (k : n) (h : n → g := by first | exact AL.mk rfl | exact AL.cp rfl rfl | exact AH.mk rfl | exact AH.cpN rfl rfl (by kernel_rfl)) : g := h k
theorem mul64_spec (M : Mem) : CallA Try.prog 129 [.int .u64 1, .int .u64 16] M fun r M' => M' = M ∧ r = .tuple ⟨[.int .u64 0, .int .u64 16]⟩ := by
  have m0 : bits .u64 (BitVec.ofInt IntKind.u64.bits 0 &&& BitVec.ofInt IntKind.u64.bits 4294967295) = .int .u64 0 := by rfl
  have m1 : bits .u64 (BitVec.ofInt IntKind.u64.bits 1 &&& BitVec.ofInt IntKind.u64.bits 4294967295) = .int .u64 1 := by rfl
  have m16 : bits .u64 (BitVec.ofInt IntKind.u64.bits 16 &&& BitVec.ofInt IntKind.u64.bits 4294967295) = .int .u64 16 := by rfl
  have p32 : (2 : Int) ^ min 32 IntKind.u64.bits = 4294967296 := by decide
  have f0 : Int.fdiv 0 4294967296 = 0 := by decide
  have f1 : Int.fdiv 1 4294967296 = 0 := by decide
  have f16 : Int.fdiv 16 4294967296 = 0 := by decide
  have w0 : IntKind.u64.wrap 0 = 0 := by decide
  have w16 : IntKind.u64.wrap 16 = 16 := by decide
  (refine CallA.of_body Try.func129 rfl (by rfl) ?_; simp only [Try.ntmps129, List.length_cons, List.length_nil, List.replicate, List.cons_append, List.nil_append, Nat.reduceSub, Nat.reduceAdd])
  (repeat (first | refine st ?_ | refine σa ?_ | ((first | refine a129_Ms2 ?_ | refine σb_Ms2 ?_); simp (disch := omega) only [push_cast, ↓reduceIte, reduceCtorEq, ν1, ν2, ν3, ν4, ν5, ζ1, ζ2, ζ3, ζ4, ζ5, m0, m1, m16, p32, f0, f1, f16, w0, w16, Int.mul_zero, Int.zero_mul, Int.one_mul, Int.mul_one, Int.add_zero, Int.zero_add])))
  ((first | refine retA.ret (by rfl) ?_ | refine retA.normal (by rfl) ?_); simp (disch := omega) only [push_cast, ↓reduceIte, reduceCtorEq, Nat.reduceAdd, Nat.reduceMul, Nat.reduceLeDiff, Nat.reduceLT, Nat.reduceSub, Int.reduceNe, Int.reduceEq, Int.reduceLE, Int.reduceLT, Int.reduceToNat])
theorem mul_spec (M : Mem) : CallA Try.prog 100 [.int .u64 1, .int .u64 16] M fun r M' => M' = M ∧ r = .tuple ⟨[.int .u64 0, .int .u64 16]⟩ := by
  have w0 : IntKind.u64.wrap 0 = 0 := by decide
  have w1 : IntKind.u64.wrap 1 = 1 := by decide
  have w16 : IntKind.u64.wrap 16 = 16 := by decide
  (refine CallA.of_body Try.func100 rfl (by rfl) ?_; simp only [Try.ntmps100, List.length_cons, List.length_nil, List.replicate, List.cons_append, List.nil_append, Nat.reduceSub, Nat.reduceAdd])
  (repeat (first | refine st ?_ | refine σa ?_ | ((first | refine a100_Ms2 ?_ | refine σb_Ms2 ?_); simp (disch := omega) only [push_cast, ↓reduceIte, reduceCtorEq, ν1, ν2, ν3, ν4, ν5, ζ1, ζ2, ζ3, ζ4, ζ5, w0, w1, w16])))
  refine (mul64_spec M).mono ?_
  rintro r M2 ⟨rfl, rfl⟩
  (repeat (first | refine st ?_ | refine σa ?_ | ((first | refine a100_Ms2 ?_ | refine σb_Ms2 ?_); simp (disch := omega) only [push_cast, ↓reduceIte, reduceCtorEq, ν1, ν2, ν3, ν4, ν5, ζ1, ζ2, ζ3, ζ4, ζ5, w0, w1, w16])))
  ((first | refine retA.ret (by rfl) ?_ | refine retA.normal (by rfl) ?_); simp (disch := omega) only [push_cast, ↓reduceIte, reduceCtorEq, Nat.reduceAdd, Nat.reduceMul, Nat.reduceLeDiff, Nat.reduceLT, Nat.reduceSub, Int.reduceNe, Int.reduceEq, Int.reduceLE, Int.reduceLT, Int.reduceToNat])
set_option maxRecDepth 20000 in
theorem rep_spec (v : Value) (M : Mem) (hv : Sl M v 1 (ints .u8 [255])) : CallA Try.prog 62 [v, .int .i64 16] M fun r M' => Fr M M' [] ∧ New M M' r 1 (ints .u8 (List.replicate 16 255)) := by
  have hs := hv.isSl
  have hn : sln v = 1 := hv.lnI
  have w0 : IntKind.u64.wrap 0 = 0 := by decide
  have w1 : IntKind.u64.wrap 1 = 1 := by decide
  have w16 : IntKind.u64.wrap 16 = 16 := by decide
  have wi1 : IntKind.i64.wrap 1 = 1 := by decide
  have wi16 : IntKind.i64.wrap 16 = 16 := by decide
  have n1 : ((1 : Nat) : Int) = 1 := rfl
  (refine CallA.of_body Try.func62 rfl (by rfl) ?_; simp only [Try.ntmps62, List.length_cons, List.length_nil, List.replicate, List.cons_append, List.nil_append, Nat.reduceSub, Nat.reduceAdd])
  (repeat (first | refine st ?_ | refine σa ?_ | refine d62_Ms2 ?_ | ((first | refine a62_Ms2 ?_ | refine σy_Ms2 ?_ | refine σc ?_); simp (disch := omega) only [push_cast, ↓reduceIte, reduceCtorEq, ν1, ν2, ν3, ν4, ν5, ζ1, ζ2, ζ3, ζ4, ζ5, hs, hn, w0, w1, w16, n1]) | (refine AL.pu rfl ?_; simp (disch := omega) only [push_cast, ↓reduceIte, reduceCtorEq, ν1, ν2, ν3, ν4, ν5, ζ1, ζ2, ζ3, ζ4, ζ5, hs, hn, w0, w1, w16, n1]; refine id (α := AL _ _ _ _ _ _) ?_)))
  refine AL.ca rfl ?_
  simp (disch := omega) only [push_cast, ↓reduceIte, reduceCtorEq, Nat.reduceAdd, Nat.reduceMul, Nat.reduceLeDiff, Nat.reduceLT, Nat.reduceSub, Int.reduceNe, Int.reduceEq, Int.reduceLE, Int.reduceLT, Int.reduceToNat]
  refine (mul_spec M).mono ?_
  rintro r M2 ⟨rfl, rfl⟩
  (repeat (first | refine st ?_ | refine σa ?_ | refine d62_Ms2 ?_ | ((first | refine a62_Ms2 ?_ | refine σy_Ms2 ?_ | refine σc ?_); simp (disch := omega) only [push_cast, ↓reduceIte, reduceCtorEq, ν1, ν2, ν3, ν4, ν5, ζ1, ζ2, ζ3, ζ4, ζ5, hs, hn, w0, w1, w16, wi1, wi16, n1]) | (refine AL.pu rfl ?_; simp (disch := omega) only [push_cast, ↓reduceIte, reduceCtorEq, ν1, ν2, ν3, ν4, ν5, ζ1, ζ2, ζ3, ζ4, ζ5, hs, hn, w0, w1, w16, wi1, wi16, n1]; refine id (α := AL _ _ _ _ _ _) ?_)))
  refine AL.mz (f := 101) (fn := Try.f101) (ty := 39) (e := 5) (n := 16) rfl rfl rfl nz_fn rfl (by kernel_rfl) nz_next nz_find (by kernel_rfl) (by kernel_rfl) rfl (by omega) (by omega) fun xs hxs => ?_
  simp (disch := omega) only [push_cast, ↓reduceIte, reduceCtorEq, Nat.reduceAdd, Nat.reduceMul, Nat.reduceLeDiff, Nat.reduceLT, Nat.reduceSub, Int.reduceNe, Int.reduceEq, Int.reduceLE, Int.reduceLT, Int.reduceToNat]
  have as1 : aslice (.slice (some ⟨M2.length, 0, none⟩) 16 (capLow + 16)) 1 none (some (.int .i64 16)) (some (.int .i64 16)) = some (.slice (some ⟨M2.length, 0, none⟩) 16 16) := aslice_full (n := 16) (by show 16 < 4611686018427387904; omega)
  have F3 := Fr.push M2 (.row true 1 (ints .u8 xs))
  have A3 := At.push M2 (.row true 1 (ints .u8 xs))
  have hsz : szOk (M2 ++ [.row true 1 (ints .u8 xs)]) (.slice (some ⟨M2.length, 0, none⟩) 16 (capLow + 16)) 1 := (Own.row (s := 1) (n := 16) (c := capLow + 16) (by omega) A3.get (by rw [ints_length, hxs]) (ints_one _ _) (capLb_add _)).sl.sz
  obtain ⟨M3, hM3⟩ : ∃ M3, M3 = M2 ++ [.row true 1 (ints .u8 xs)] := ⟨_, rfl⟩
  rw [← hM3] at F3 A3 hsz ⊢
  (repeat (first | refine st ?_ | refine σa ?_ | refine d62_Ms2 ?_ | ((first | refine a62_Ms2 ?_ | refine σy_Ms2 ?_ | refine σc ?_); simp (disch := omega) only [push_cast, ↓reduceIte, reduceCtorEq, ν1, ν2, ν3, ν4, ν5, ζ1, ζ2, ζ3, ζ4, ζ5, hs, hn, w0, w1, w16, wi1, wi16, n1, as1, hsz, Option.map_none]) | (refine AL.pu rfl ?_; simp (disch := omega) only [push_cast, ↓reduceIte, reduceCtorEq, ν1, ν2, ν3, ν4, ν5, ζ1, ζ2, ζ3, ζ4, ζ5, hs, hn, w0, w1, w16, wi1, wi16, n1, as1, hsz, Option.map_none]; refine id (α := AL _ _ _ _ _ _) ?_)))
  refine ⟨5, 5, M2.length, 0, 16, 16, ints .u8 xs, ints .u8 [255], by kernel_rfl, by kernel_rfl, by kernel_rfl, rfl, A3.get, hv.keep F3 (by simp), by show 1 ≤ 16; omega, by show 0 < 1; omega, by show 0 + 1 ≤ _; rw [ints_length]; omega, ?_⟩
  have A4 := A3.set (.row true 1 (spl (ints .u8 xs) 0 (ints .u8 [255])))
  have F4 : Fr M2 _ [] := (F3.trans (Fr.set M3 M2.length (.row true 1 (spl (ints .u8 xs) 0 (ints .u8 [255]))))).cut (fun b hb hlt => by simp at hb; omega)
  have e4 : spl (ints .u8 xs) 0 (ints .u8 [255]) = ints .u8 (List.replicate 1 255 ++ xs.drop 1) := by simp [spl, ints]
  rw [e4] at A4 F4 ⊢
  generalize M3.set M2.length (.row true 1 (ints .u8 (List.replicate 1 255 ++ xs.drop 1))) = M4 at *
  (repeat (first | refine st ?_ | refine σa ?_ | refine d62_Ms2 ?_ | ((first | refine a62_Ms2 ?_ | refine σy_Ms2 ?_ | refine σc ?_); simp (disch := omega) only [push_cast, ↓reduceIte, reduceCtorEq, ν1, ν2, ν3, ν4, ν5, ζ1, ζ2, ζ3, ζ4, ζ5]) | (refine AL.pu rfl ?_; simp (disch := omega) only [push_cast, ↓reduceIte, reduceCtorEq, ν1, ν2, ν3, ν4, ν5, ζ1, ζ2, ζ3, ζ4, ζ5]; refine id (α := AL _ _ _ _ _ _) ?_)))
  refine AW.loopF [10, 11, 61, 62, 63, 64, 65, 66, 67, 68, 69, 70, 71, 72, 73, 74, 75] (fun n g M' => ∃ k : Nat, (k = 1 ∨ k = 2 ∨ k = 4 ∨ k = 8 ∨ k = 16) ∧ g 10 = .int .i64 k ∧ k + n = 16 ∧ Fr M2 M' [] ∧ ∃ zs, zs.length = 16 - k ∧ At M' M2.length (.row true 1 (ints .u8 (List.replicate k 255 ++ zs)))) 15 ?_ ?_
  · exact ⟨1, .inl rfl, rfl, rfl, F4, xs.drop 1, by rw [List.length_drop, hxs], A4⟩
  rintro n g M5 ⟨k, hk, h10, hkn, F5, zs, hz, A5⟩
  simp (disch := omega) only [push_cast, ↓reduceIte, reduceCtorEq, Nat.reduceAdd, Nat.reduceMul, Nat.reduceLeDiff, Nat.reduceLT, Nat.reduceSub, Int.reduceNe, Int.reduceEq, Int.reduceLE, Int.reduceLT, Int.reduceToNat, h10]
  by_cases hlt : k < 16
  · have hk8 : k ≤ 8 := by omega
    have dlt : decide ((k : Int) < 16) = true := decide_eq_true (by omega)
    obtain ⟨r, hr⟩ : ∃ r, r = 16 - k := ⟨_, rfl⟩
    have own5 := Own.row (s := 1) (n := 16) (c := 16) (by omega) A5.get (by rw [ints_length, List.length_append, List.length_replicate, hz]; omega) (ints_one _ _) cap16
    have hsz5 := own5.sl.sz
    have b1 : aslice (.slice (some ⟨M2.length, 0, none⟩) 16 16) 1 (some (.int .i64 (k : Int))) none none = some (.slice (some ⟨M2.length, k, none⟩) (16 - k) (16 - k)) := by
      have := aslice_from (b := M2.length) (off := 0) (n := 16) (c := 16) (s := 1) (k := k) (by omega)
      rw [Nat.zero_add, Nat.mul_one] at this
      rw [this, capSub_small (n := 16) (l := k) (by omega)]
    have b2 : aslice (.slice (some ⟨M2.length, 0, none⟩) 16 16) 1 none (some (.int .i64 (k : Int))) none = some (.slice (some ⟨M2.length, 0, none⟩) k 16) := by
      rw [aslice_to (Nat.le_trans (by omega) cap16), capSub_small (n := 16) (l := 0) (by omega)]
    have hmin : (if (16 : Int) < k then (16 : Int) else k) = k := by rw [if_neg (by omega)]
    have hbl5 := own5.sl.blks
    (repeat (first | refine st ?_ | refine σa ?_ | refine d62_Ms2 ?_ | ((first | refine a62_Ms2 ?_ | refine σy_Ms2 ?_ | refine σc ?_); simp (disch := omega) only [push_cast, ↓reduceIte, reduceCtorEq, ν1, ν2, ν3, ν4, ν5, ζ1, ζ2, ζ3, ζ4, ζ5, b1, b2, hsz5, hbl5, hmin, dlt, Option.map_none]) | (refine AL.pu rfl ?_; simp (disch := omega) only [push_cast, ↓reduceIte, reduceCtorEq, ν1, ν2, ν3, ν4, ν5, ζ1, ζ2, ζ3, ζ4, ζ5, b1, b2, hsz5, hbl5, hmin, dlt, Option.map_none]; refine id (α := AL _ _ _ _ _ _) ?_)))
    obtain ⟨w, hw, pw⟩ := own5.sl.pcTo k (by rw [List.length_append, List.length_replicate, hz]; omega)
    rw [b2] at hw
    obtain rfl := Option.some.inj hw
    have hs5 := pw.sl
    rw [List.take_append_of_le_length (by rw [List.length_replicate]; omega), List.take_of_length_le (by rw [List.length_replicate]; omega)] at hs5
    have lk : (ints .u8 (List.replicate k 255)).length = k := by rw [ints_length, List.length_replicate]
    refine ⟨5, 5, M2.length, k, 16 - k, 16 - k, _, ints .u8 (List.replicate k 255), by kernel_rfl, by kernel_rfl, by kernel_rfl, rfl, A5.get, hs5, by rw [lk]; omega, by rw [lk]; omega, by rw [lk, ints_length, List.length_append, List.length_replicate, hz]; omega, ?_⟩
    have A6 := A5.set (.row true 1 (spl (ints .u8 (List.replicate k 255 ++ zs)) k (ints .u8 (List.replicate k 255))))
    have F6 : Fr M2 _ [] := (F5.trans (Fr.set M5 M2.length (.row true 1 (spl (ints .u8 (List.replicate k 255 ++ zs)) k (ints .u8 (List.replicate k 255)))))).cut (fun b hb hlt => by simp at hb; omega)
    have e6 : spl (ints .u8 (List.replicate k 255 ++ zs)) k (ints .u8 (List.replicate k 255)) = ints .u8 (List.replicate (k + k) 255 ++ zs.drop k) := by
      unfold spl
      rw [lk, ints_take, ints_drop, ints_append, ints_append, List.take_append_of_le_length (by rw [List.length_replicate]; omega), List.take_of_length_le (by rw [List.length_replicate]; omega), List.drop_append, List.drop_eq_nil_of_le (by rw [List.length_replicate]; omega), List.length_replicate, Nat.add_sub_cancel, List.nil_append, show List.replicate (k + k) (255 : Int) = List.replicate k 255 ++ List.replicate k 255 from by rw [List.replicate_append_replicate]]
    rw [e6] at A6 F6 ⊢
    rw [lk]
    generalize M5.set M2.length (.row true 1 (ints .u8 (List.replicate (k + k) 255 ++ zs.drop k))) = M6 at *
    have wkk : IntKind.i64.wrap ((k : Int) + k) = ((k + k : Nat) : Int) := by rw [w_i64 (by omega) (by omega)]; omega
    (repeat (first | refine st ?_ | refine σa ?_ | refine d62_Ms2 ?_ | ((first | refine a62_Ms2 ?_ | refine σy_Ms2 ?_ | refine σc ?_); simp (disch := omega) only [push_cast, ↓reduceIte, reduceCtorEq, ν1, ν2, ν3, ν4, ν5, ζ1, ζ2, ζ3, ζ4, ζ5, wkk]) | (refine AL.pu rfl ?_; simp (disch := omega) only [push_cast, ↓reduceIte, reduceCtorEq, ν1, ν2, ν3, ν4, ν5, ζ1, ζ2, ζ3, ζ4, ζ5, wkk]; refine id (α := AL _ _ _ _ _ _) ?_)))
    refine ⟨rfl, n - k, by omega, k + k, by omega, by show Value.int .i64 ((k : Int) + k) = .int .i64 ((k + k : Nat) : Int); rw [Int.natCast_add], by omega, F6, zs.drop k, by rw [List.length_drop, hz]; omega, A6⟩
  · obtain rfl : k = 16 := by omega
    have dlt : decide (((16 : Nat) : Int) < 16) = false := by decide
    have dlt' : decide ((16 : Int) < 16) = false := by decide
    have n16 : ((16 : Nat) : Int) = 16 := rfl
    rw [n16]
    (repeat (first | refine st ?_ | refine σn ?_ | refine d62_Ms2 ?_ | ((first | refine a62_Ms2 ?_ | refine σb_Ms2 ?_ | refine σc ?_); simp (disch := omega) only [push_cast, ↓reduceIte, reduceCtorEq, ν1, ν2, ν3, ν4, ν5, ζ1, ζ2, ζ3, ζ4, ζ5, dlt'])))
    refine AW.condF rfl rfl rfl ?_
    (repeat (first | refine st ?_ | refine σa ?_ | refine d62_Ms2 ?_ | ((first | refine a62_Ms2 ?_ | refine σb_Ms2 ?_ | refine σc ?_); simp (disch := omega) only [push_cast, ↓reduceIte, reduceCtorEq, ν1, ν2, ν3, ν4, ν5, ζ1, ζ2, ζ3, ζ4, ζ5])))
    ((first | refine retA.ret (by rfl) ?_ | refine retA.normal (by rfl) ?_); simp (disch := omega) only [push_cast, ↓reduceIte, reduceCtorEq, Nat.reduceAdd, Nat.reduceMul, Nat.reduceLeDiff, Nat.reduceLT, Nat.reduceSub, Int.reduceNe, Int.reduceEq, Int.reduceLE, Int.reduceLT, Int.reduceToNat])
    obtain rfl : zs = [] := List.eq_nil_of_length_eq_zero hz
    rw [List.append_nil] at A5
    exact ⟨F5, Own.row (by omega) A5.get rfl (ints_one _ _) cap16, fun a n c h hc => by cases h; exact Nat.le_refl _⟩

end Go.Proofs.Ytbdejnnbpdgjlaa.Ax

namespace Go.Proofs.Ytbdejnnbpdgjlaa.Ax
open Go Go.RowKit
open Nat renaming reduceAdd → ν1, reduceMul → ν2, reduceLeDiff → ν3, reduceLT → ν4, reduceSub → ν5
open Int renaming reduceNe → ζ1, reduceEq → ζ2, reduceLE → ζ3, reduceLT → ζ4, reduceToNat → ζ5
set_option linter.unusedVariables false
set_option linter.unusedSimpArgs false
set_option maxRecDepth 100000
set_option maxHeartbeats 20000000
attribute [local irreducible] thenA blockA scopeA retA AL AW AD ADL AH clrK CallA apure aload bload appK ptrK fnK ares szOk planOk okOps
theorem d127_Pu1 {g n : Prop} (k : n) (h : n → g := by first | exact AW.dr (id := 4) (by rfl) [0, 1, 2, 3, 4, 5, 6, 7, 8, 9, 10, 11] (by kernel_rfl) (by kernel_rfl) | exact AW.dr (id := 6) (by rfl) [0, 1, 2, 3, 4, 5, 6] (by kernel_rfl) (by kernel_rfl)) : g := h k
theorem a127_Pu1 {g n : Prop} (k : n) (h : n → g := by first | exact AH.ca (dst := some 28) rfl) : g := h k
theorem rise_of {l : List Int} (h : ∀ i, i + 1 < l.length → l.getD i 0 < l.getD (i + 1) 0) : l.Pairwise (· < ·) := by
  induction l with
  | nil => exact .nil
  | cons x l ih =>
    have ht := ih fun i hi => by have := h (i + 1) (by simp; omega); simpa using this
    refine List.pairwise_cons.2 ⟨fun y hy => ?_, ht⟩
    cases l with
    | nil => cases hy
    | cons z l =>
      have h0 := h 0 (by simp)
      simp at h0
      rcases List.mem_cons.1 hy with rfl | hy
      · exact h0
      · have := (List.pairwise_cons.1 ht).1 y hy; omega
theorem rise_at {l : List Int} (h : l.Pairwise (· < ·)) {i j : Nat} (hij : i < j) (hj : j < l.length) : l.getD i 0 < l.getD j 0 := by
  rw [getD_lt hj, getD_lt (by omega)]
  exact List.pairwise_iff_getElem.1 h i j (by omega) hj hij
theorem mask_spec (M : Mem) : CallA Try.prog 46 [.agg ⟨[.int .u32 0, .int .i64 0]⟩] M fun r M' => Fr M M' [] ∧ r = .agg ⟨[.int .u32 0, .int .i64 0]⟩ := by
  have z : (if (0 : Int) > 0 then (0 : Int) else 0) = 0 := rfl
  (refine CallA.of_body Try.func46 rfl (by rfl) ?_; simp only [Try.ntmps46, List.length_cons, List.length_nil, List.replicate, List.cons_append, List.nil_append, Nat.reduceSub, Nat.reduceAdd])
  (repeat (first | refine st ?_ | refine σa ?_ | (refine σb ?_; simp (disch := omega) only [push_cast, ↓reduceIte, reduceCtorEq, ν1, ν2, ν3, ν4, ν5, ζ1, ζ2, ζ3, ζ4, ζ5, z, Int.zero_fdiv, Int.zero_mul, w_i64, w_u64, w_u32, buildE, memE, boxE])))
  ((first | refine retA.ret (by rfl) ?_ | refine retA.normal (by rfl) ?_); simp (disch := omega) only [push_cast, ↓reduceIte, reduceCtorEq, Nat.reduceAdd, Nat.reduceMul, Nat.reduceLeDiff, Nat.reduceLT, Nat.reduceSub, Int.reduceNe, Int.reduceEq, Int.reduceLE, Int.reduceLT, Int.reduceToNat, memE, boxE])
  exact Fr.push2 _ _ _
def validP (p c : List Int) (o : Int) : Prop := c.Pairwise (· < ·) ∧ p.length ≤ 255 ∧ c.length ≤ 255 ∧ 0 ∉ p ∧ 0 ≤ o ∧ o ≤ 2
instance (p c : List Int) (o : Int) : Decidable (validP p c o) := by unfold validP; infer_instance
theorem valid_spec (p c : Value) (ps cs : List Int) (o : Int) (M : Mem) (hp : Sl M p 1 (ints .u32 ps)) (hc : Sl M c 1 (ints .u32 cs)) (h1 : ps.length ≤ 1000000000) (h2 : cs.length ≤ 1000000000) :
    CallA Try.prog 127 [.agg ⟨[.int .u32 0, .int .i64 0, p, c, .int .u32 0, .int .u32 0, .int .i64 o, .int .u32 0]⟩] M fun r M' => Fr M M' [] ∧ r = .bool (decide (validP ps cs o)) := by
  obtain ⟨M0, hM0⟩ : ∃ M0, M0 = M ++ [Blk.box [.int .u32 0, .int .i64 0, p, c, .int .u32 0, .int .u32 0, .int .i64 o, .int .u32 0]] := ⟨_, rfl⟩
  have hF : Fr M M0 [] := by rw [hM0]; exact Fr.push _ _
  have l1 : ∀ ty j, aload Try.prog ty M0 M.length j = bload Try.prog ty [.int .u32 0, .int .i64 0, p, c, .int .u32 0, .int .u32 0, .int .i64 o, .int .u32 0] j := fun ty j => by rw [hM0]; exact ld_one _ _ _ _ _
  have hp0 := hp.keep hF (by simp)
  have hc0 := hc.keep hF (by simp)
  have hsc := hc.isSl
  have hnc := hc.lnI
  have hsp := hp.isSl
  have hnp := hp.lnI
  (refine CallA.of_body Try.func127 rfl (by rfl) ?_; simp only [Try.ntmps127, List.length_cons, List.length_nil, List.replicate, List.cons_append, List.nil_append, Nat.reduceSub, Nat.reduceAdd])
  (repeat (first | refine st ?_ | refine σa ?_ | refine d127_Pu1 ?_ | ((first | refine a127_Pu1 ?_ | refine σb ?_ | refine σc ?_); simp (disch := omega) only [push_cast, ↓reduceIte, reduceCtorEq, ν1, ν2, ν3, ν4, ν5, ζ1, ζ2, ζ3, ζ4, ζ5, hsc, hnc])))
  rw [← hM0]
  refine AW.loopF [2, 3, 4, 5, 6, 7, 8, 9, 10, 11, 12, 13, 14, 15, 16, 17, 18, 19, 20, 21, 22] (fun m g M' => ∃ i : Nat, g 3 = .int .i64 i ∧ i + m = cs.length + 1 ∧ 1 ≤ i ∧ M' = M0 ∧ ∀ q, q + 1 < i → q + 1 < cs.length → cs.getD q 0 < cs.getD (q + 1) 0) cs.length ?_ ?_
  · exact ⟨1, rfl, by omega, by omega, rfl, fun q h => by omega⟩
  rintro m g M1 ⟨i, h3, hi, hi1, rfl, he⟩
  simp (disch := omega) only [push_cast, ↓reduceIte, reduceCtorEq, Nat.reduceAdd, Nat.reduceMul, Nat.reduceLeDiff, Nat.reduceLT, Nat.reduceSub, Int.reduceNe, Int.reduceEq, Int.reduceLE, Int.reduceLT, Int.reduceToNat, h3]
  (repeat (first | refine st ?_ | refine σa ?_ | refine d127_Pu1 ?_ | ((first | refine a127_Pu1 ?_ | refine σb ?_ | refine σc ?_); simp (disch := omega) only [push_cast, ↓reduceIte, reduceCtorEq, ν1, ν2, ν3, ν4, ν5, ζ1, ζ2, ζ3, ζ4, ζ5, l1, hsc, hnc])))
  ((first | refine AL.gu rfl (fun hlt => ?_) (fun hlt => ?_) | refine AW.condS rfl rfl (fun hlt => ?_) (fun hlt => ?_)) <;> (try (have hlt' := hlt; simp only [Bool.not_eq_true', Bool.not_eq_false', Bool.not_true, Bool.not_false, decide_eq_true_eq, decide_eq_false_iff_not, Classical.not_not, Int.not_lt, Int.not_le, gt_iff_lt, ge_iff_le, beq_iff_eq] at hlt')))
  · have e1 := hc0.ldN (P := Try.prog) (ty := 30) (i := i) (by kernel_rfl) (by omega)
    have e2 := hc0.ldN (P := Try.prog) (ty := 30) (i := i - 1) (by kernel_rfl) (by omega)
    have t1 : ((i : Int) - 1).toNat = i - 1 := by omega
    by_cases c1 : cs.getD i 0 ≤ cs.getD (i - 1) 0
    · have d1 : decide (cs.getD i 0 ≤ cs.getD (i - 1) 0) = true := decide_eq_true c1
      (repeat (first | refine st ?_ | refine σa ?_ | refine d127_Pu1 ?_ | ((first | refine a127_Pu1 ?_ | refine σb ?_ | refine σc ?_); simp (disch := omega) only [push_cast, ↓reduceIte, reduceCtorEq, ν1, ν2, ν3, ν4, ν5, ζ1, ζ2, ζ3, ζ4, ζ5, l1, hsc, hnc, e1, e2, d1, t1, w_i64, Int.toNat_natCast])))
      ((first | refine retA.ret (by rfl) ?_ | refine retA.normal (by rfl) ?_); simp (disch := omega) only [push_cast, ↓reduceIte, reduceCtorEq, Nat.reduceAdd, Nat.reduceMul, Nat.reduceLeDiff, Nat.reduceLT, Nat.reduceSub, Int.reduceNe, Int.reduceEq, Int.reduceLE, Int.reduceLT, Int.reduceToNat])
      refine ⟨hF, ?_⟩
      have : ¬ validP ps cs o := fun h => by have := rise_at h.1 (i := i - 1) (j := i) (by omega) (by omega); omega
      simp [this]
    · have d1 : decide (cs.getD i 0 ≤ cs.getD (i - 1) 0) = false := decide_eq_false c1
      (repeat (first | refine st ?_ | refine σa ?_ | refine d127_Pu1 ?_ | ((first | refine a127_Pu1 ?_ | refine σb ?_ | refine σc ?_); simp (disch := omega) only [push_cast, ↓reduceIte, reduceCtorEq, ν1, ν2, ν3, ν4, ν5, ζ1, ζ2, ζ3, ζ4, ζ5, l1, hsc, hnc, e1, e2, d1, t1, w_i64, Int.toNat_natCast])))
      refine ⟨rfl, m - 1, by omega, i + 1, rfl, by omega, by omega, rfl, fun q hq hq2 => ?_⟩
      by_cases e : q + 1 = i
      · subst e
        have e2 : q + 1 - 1 = q := by omega
        rw [e2] at c1; omega
      · exact he q (by omega) hq2
  · have hris : cs.Pairwise (· < ·) := rise_of fun q hq => he q (by omega) hq
    (repeat (first | refine st ?_ | refine σa ?_ | refine d127_Pu1 ?_ | ((first | refine a127_Pu1 ?_ | refine σb ?_ | refine σc ?_); simp (disch := omega) only [push_cast, ↓reduceIte, reduceCtorEq, ν1, ν2, ν3, ν4, ν5, ζ1, ζ2, ζ3, ζ4, ζ5, l1, buildE])))
    refine (mask_spec _).mono ?_
    rintro r M2 ⟨hF2, rfl⟩
    refine ⟨hF2, ?_⟩
    refine ADL.hd rfl ?_
    refine AH.neS (by kernel_rfl) rfl rfl rfl ⟨true, by kernel_rfl, ?_⟩
    simp (disch := omega) only [push_cast, ↓reduceIte, reduceCtorEq, Nat.reduceAdd, Nat.reduceMul, Nat.reduceLeDiff, Nat.reduceLT, Nat.reduceSub, Int.reduceNe, Int.reduceEq, Int.reduceLE, Int.reduceLT, Int.reduceToNat]
    have l2 : ∀ ty j, aload Try.prog ty M2 M.length j = bload Try.prog ty [.int .u32 0, .int .i64 0, p, c, .int .u32 0, .int .u32 0, .int .i64 o, .int .u32 0] j := fun ty j => by
      have a : At M1 M.length (.box [.int .u32 0, .int .i64 0, p, c, .int .u32 0, .int .u32 0, .int .i64 o, .int .u32 0]) := by rw [hM0]; exact At.push _ _
      exact (a.keep hF2 (by simp)).ld
    have hFF := hF.tr hF2
    by_cases c2 : ps.length > 255
    · have d2 : decide ((ps.length : Int) > 255) = true := decide_eq_true (by omega)
      (repeat (first | refine st ?_ | refine σa ?_ | refine d127_Pu1 ?_ | ((first | refine a127_Pu1 ?_ | refine σb ?_ | refine σc ?_); simp (disch := omega) only [push_cast, ↓reduceIte, reduceCtorEq, ν1, ν2, ν3, ν4, ν5, ζ1, ζ2, ζ3, ζ4, ζ5, l2, hsp, hnp, d2, Bool.not_true])))
      ((first | refine retA.ret (by rfl) ?_ | refine retA.normal (by rfl) ?_); simp (disch := omega) only [push_cast, ↓reduceIte, reduceCtorEq, Nat.reduceAdd, Nat.reduceMul, Nat.reduceLeDiff, Nat.reduceLT, Nat.reduceSub, Int.reduceNe, Int.reduceEq, Int.reduceLE, Int.reduceLT, Int.reduceToNat])
      have : ¬ validP ps cs o := fun h => by have := h.2.1; omega
      exact ⟨hFF, by simp [this]⟩
    have d2 : decide ((ps.length : Int) > 255) = false := decide_eq_false (by omega)
    by_cases c3 : cs.length > 255
    · have d3 : decide ((cs.length : Int) > 255) = true := decide_eq_true (by omega)
      (repeat (first | refine st ?_ | refine σa ?_ | refine d127_Pu1 ?_ | ((first | refine a127_Pu1 ?_ | refine σb ?_ | refine σc ?_); simp (disch := omega) only [push_cast, ↓reduceIte, reduceCtorEq, ν1, ν2, ν3, ν4, ν5, ζ1, ζ2, ζ3, ζ4, ζ5, l2, hsp, hnp, hsc, hnc, d2, d3, Bool.not_true])))
      ((first | refine retA.ret (by rfl) ?_ | refine retA.normal (by rfl) ?_); simp (disch := omega) only [push_cast, ↓reduceIte, reduceCtorEq, Nat.reduceAdd, Nat.reduceMul, Nat.reduceLeDiff, Nat.reduceLT, Nat.reduceSub, Int.reduceNe, Int.reduceEq, Int.reduceLE, Int.reduceLT, Int.reduceToNat])
      have : ¬ validP ps cs o := fun h => by have := h.2.2.1; omega
      exact ⟨hFF, by simp [this]⟩
    have d3 : decide ((cs.length : Int) > 255) = false := decide_eq_false (by omega)
    (repeat (first | refine st ?_ | refine σa ?_ | refine d127_Pu1 ?_ | ((first | refine a127_Pu1 ?_ | refine σb ?_ | refine σc ?_); simp (disch := omega) only [push_cast, ↓reduceIte, reduceCtorEq, ν1, ν2, ν3, ν4, ν5, ζ1, ζ2, ζ3, ζ4, ζ5, l2, hsp, hnp, hsc, hnc, d2, d3, Bool.not_true])))
    refine (has_spec p ps 0 M2 (hp.keep hFF (by simp)) h1).mono ?_
    rintro r M3 ⟨rfl, rfl⟩
    by_cases c4 : (0 : Int) ∈ ps
    · have d4 : decide ((0 : Int) ∈ ps) = true := decide_eq_true c4
      (repeat (first | refine st ?_ | refine σa ?_ | refine d127_Pu1 ?_ | ((first | refine a127_Pu1 ?_ | refine σb ?_ | refine σc ?_); simp (disch := omega) only [push_cast, ↓reduceIte, reduceCtorEq, ν1, ν2, ν3, ν4, ν5, ζ1, ζ2, ζ3, ζ4, ζ5, d4])))
      ((first | refine retA.ret (by rfl) ?_ | refine retA.normal (by rfl) ?_); simp (disch := omega) only [push_cast, ↓reduceIte, reduceCtorEq, Nat.reduceAdd, Nat.reduceMul, Nat.reduceLeDiff, Nat.reduceLT, Nat.reduceSub, Int.reduceNe, Int.reduceEq, Int.reduceLE, Int.reduceLT, Int.reduceToNat])
      have : ¬ validP ps cs o := fun h => h.2.2.2.1 c4
      exact ⟨hFF, by simp [this]⟩
    have d4 : decide ((0 : Int) ∈ ps) = false := decide_eq_false c4
    by_cases c5 : 0 ≤ o
    · have d5 : decide (o ≥ 0) = true := decide_eq_true c5
      (repeat (first | refine st ?_ | refine σa ?_ | refine d127_Pu1 ?_ | ((first | refine a127_Pu1 ?_ | refine σb ?_ | refine σc ?_); simp (disch := omega) only [push_cast, ↓reduceIte, reduceCtorEq, ν1, ν2, ν3, ν4, ν5, ζ1, ζ2, ζ3, ζ4, ζ5, d4, d5, l2])))
      ((first | refine retA.ret (by rfl) ?_ | refine retA.normal (by rfl) ?_); simp (disch := omega) only [push_cast, ↓reduceIte, reduceCtorEq, Nat.reduceAdd, Nat.reduceMul, Nat.reduceLeDiff, Nat.reduceLT, Nat.reduceSub, Int.reduceNe, Int.reduceEq, Int.reduceLE, Int.reduceLT, Int.reduceToNat])
      refine ⟨hFF, ?_⟩
      have : validP ps cs o ↔ o ≤ 2 := ⟨fun h => h.2.2.2.2.2, fun h => ⟨hris, by omega, by omega, c4, c5, h⟩⟩
      simp [this]
    · have d5 : decide (o ≥ 0) = false := decide_eq_false c5
      (repeat (first | refine st ?_ | refine σa ?_ | refine d127_Pu1 ?_ | ((first | refine a127_Pu1 ?_ | refine σb ?_ | refine σc ?_); simp (disch := omega) only [push_cast, ↓reduceIte, reduceCtorEq, ν1, ν2, ν3, ν4, ν5, ζ1, ζ2, ζ3, ζ4, ζ5, d4, d5, l2])))
      ((first | refine retA.ret (by rfl) ?_ | refine retA.normal (by rfl) ?_); simp (disch := omega) only [push_cast, ↓reduceIte, reduceCtorEq, Nat.reduceAdd, Nat.reduceMul, Nat.reduceLeDiff, Nat.reduceLT, Nat.reduceSub, Int.reduceNe, Int.reduceEq, Int.reduceLE, Int.reduceLT, Int.reduceToNat])
      refine ⟨hFF, ?_⟩
      have : ¬ validP ps cs o := fun h => c5 h.2.2.2.2.1
      simp [this]
end Go.Proofs.Ytbdejnnbpdgjlaa.Ax
