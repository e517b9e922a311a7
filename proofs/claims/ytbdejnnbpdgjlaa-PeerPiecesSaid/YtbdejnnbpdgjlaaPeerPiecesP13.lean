/- Contracts of functions over the abstract machine. No conditions: lemmas alone. -/
import Derived.Test.YtbdejnnbpdgjlaaPeerPiecesLibD
import Derived.Test.YtbdejnnbpdgjlaaPeerPiecesP0
import Derived.Test.YtbdejnnbpdgjlaaPeerPiecesP12
import Derived.Test.YtbdejnnbpdgjlaaPeerPiecesP3
import Derived.Test.YtbdejnnbpdgjlaaPeerPiecesP11
namespace Go.Proofs.Ytbdejnnbpdgjlaa.Ax
open Go Go.RowKit
open Nat renaming reduceAdd → ν1, reduceMul → ν2, reduceLeDiff → ν3, reduceLT → ν4, reduceSub → ν5
open Int renaming reduceNe → ζ1, reduceEq → ζ2, reduceLE → ζ3, reduceLT → ζ4, reduceToNat → ζ5
set_option linter.unusedVariables false
set_option linter.unusedSimpArgs false
set_option maxRecDepth 100000
set_option maxHeartbeats 20000000
attribute [local irreducible] thenA blockA scopeA retA AL AW AD ADL AH clrK CallA apure aload bload appK ptrK fnK ares szOk planOk okOps
theorem σb_Ms2 {g n : Prop} (k : n) (h : n → g := by first | exact AL.ld rfl | exact AL.bx rfl | exact AL.al | exact AL.lt rfl | exact AL.st rfl rfl | exact AL.ap rfl rfl | exact AL.ca rfl | exact AL.slW (by kernel_rfl) rfl | exact AL.pu rfl | exact AL.guF rfl (by first | rfl | assumption) | exact AL.skip rfl) : g := h k
theorem a129_Ms2 {g n : Prop} (k : n) (h : n → g := by first | exact AL.mk rfl | exact AL.cp rfl rfl) : g := h k
theorem a100_Ms2 {g n : Prop} (k : n) (h : n → g := by first | exact AL.mk rfl | exact AL.cp rfl rfl) : g := h k
theorem σy_Ms2 {g n : Prop} (k : n) (h : n → g := by first | exact AL.ld rfl | exact AL.bx rfl | exact AL.al | exact AL.lt rfl | exact AL.st rfl rfl | exact AL.ap rfl rfl | exact AL.slW (by kernel_rfl) rfl | exact AL.guF rfl (by first | rfl | assumption) | exact AL.skip rfl) : g := h k
theorem d62_Ms2 {g n : Prop} (k : n) (h : n → g := by first | exact AW.dr (id := 20) (by rfl) [0, 1, 2, 3, 4, 5, 6, 7, 8, 9] (by kernel_rfl) (by kernel_rfl)) : g := h k
theorem a62_Ms2 {g n : Prop} (k : n) (h : n → g := by first | exact AL.mk rfl | exact AL.cp rfl rfl | exact AH.mk rfl | exact AH.cpN rfl rfl (by kernel_rfl)) : g := h k
theorem mul64_spec (M : Mem) : CallA Try.prog 129 [.int .u64 1, .int .u64 16] M fun r M' => M' = M ∧ r = .tuple ⟨[.int .u64 0, .int .u64 16]⟩ := by
 have m0 : bits .u64 (BitVec.ofInt IntKind.u64.bits 0 &&& BitVec.ofInt IntKind.u64.bits 4294967295) = .int .u64 0 := by rfl
 have m1 : bits .u64 (BitVec.ofInt IntKind.u64.bits 1 &&& BitVec.ofInt IntKind.u64.bits 4294967295) = .int .u64 1 := by rfl
 have m16 : bits .u64 (BitVec.ofInt IntKind.u64.bits 16 &&& BitVec.ofInt IntKind.u64.bits 4294967295) = .int .u64 16 := by rfl
 have p32 : (2 : Int) ^ min 32 IntKind.u64.bits = 4294967296 := by decide
 have f0 : Int.fdiv 0 4294967296 = 0 := by decide
 have f1 : Int.fdiv 1 4294967296 = 0 := by decide
 have f16 : Int.fdiv 16 4294967296 = 0 := by decide
 have w0 : IntKind.u64.wrap 0 = 0 := by decide
 have w16 : IntKind.u64.wrap 16 = 16 := by decide
 (refine CallA.of_body Try.func129 rfl (by rfl) ?_; simp only [Try.ntmps129, List.length_cons, List.length_nil, List.replicate, List.cons_append, List.nil_append, Nat.reduceSub, Nat.reduceAdd])
 (repeat (first | refine st ?_ | refine σa ?_ | ((first | refine a129_Ms2 ?_ | refine σb_Ms2 ?_); simp (disch := omega) only [push_cast, ↓reduceIte, reduceCtorEq, ν1, ν2, ν3, ν4, ν5, ζ1, ζ2, ζ3, ζ4, ζ5, m0, m1, m16, p32, f0, f1, f16, w0, w16, Int.mul_zero, Int.zero_mul, Int.one_mul, Int.mul_one, Int.add_zero, Int.zero_add])))
 ((first | refine retA.ret (by rfl) ?_ | refine retA.normal (by rfl) ?_); simp (disch := omega) only [push_cast, ↓reduceIte, reduceCtorEq, Nat.reduceAdd, Nat.reduceMul, Nat.reduceLeDiff, Nat.reduceLT, Nat.reduceSub, Int.reduceNe, Int.reduceEq, Int.reduceLE, Int.reduceLT, Int.reduceToNat])
theorem mul_spec (M : Mem) : CallA Try.prog 100 [.int .u64 1, .int .u64 16] M fun r M' => M' = M ∧ r = .tuple ⟨[.int .u64 0, .int .u64 16]⟩ := by
 have w0 : IntKind.u64.wrap 0 = 0 := by decide
 have w1 : IntKind.u64.wrap 1 = 1 := by decide
 have w16 : IntKind.u64.wrap 16 = 16 := by decide
 (refine CallA.of_body Try.func100 rfl (by rfl) ?_; simp only [Try.ntmps100, List.length_cons, List.length_nil, List.replicate, List.cons_append, List.nil_append, Nat.reduceSub, Nat.reduceAdd])
 (repeat (first | refine st ?_ | refine σa ?_ | ((first | refine a100_Ms2 ?_ | refine σb_Ms2 ?_); simp (disch := omega) only [push_cast, ↓reduceIte, reduceCtorEq, ν1, ν2, ν3, ν4, ν5, ζ1, ζ2, ζ3, ζ4, ζ5, w0, w1, w16])))
 refine (mul64_spec M).mono ?_
 rintro r M2 ⟨rfl, rfl⟩
 (repeat (first | refine st ?_ | refine σa ?_ | ((first | refine a100_Ms2 ?_ | refine σb_Ms2 ?_); simp (disch := omega) only [push_cast, ↓reduceIte, reduceCtorEq, ν1, ν2, ν3, ν4, ν5, ζ1, ζ2, ζ3, ζ4, ζ5, w0, w1, w16])))
 ((first | refine retA.ret (by rfl) ?_ | refine retA.normal (by rfl) ?_); simp (disch := omega) only [push_cast, ↓reduceIte, reduceCtorEq, Nat.reduceAdd, Nat.reduceMul, Nat.reduceLeDiff, Nat.reduceLT, Nat.reduceSub, Int.reduceNe, Int.reduceEq, Int.reduceLE, Int.reduceLT, Int.reduceToNat])
set_option maxRecDepth 20000 in
theorem rep_spec (v : Value) (M : Mem) (hv : Sl M v 1 (ints .u8 [255])) : CallA Try.prog 62 [v, .int .i64 16] M fun r M' => Fr M M' [] ∧ New M M' r 1 (ints .u8 (List.replicate 16 255)) := by
 have hs := hv.isSl
 have hn : sln v = 1 := hv.lnI
 have w0 : IntKind.u64.wrap 0 = 0 := by decide
 have w1 : IntKind.u64.wrap 1 = 1 := by decide
 have w16 : IntKind.u64.wrap 16 = 16 := by decide
 have wi1 : IntKind.i64.wrap 1 = 1 := by decide
 have wi16 : IntKind.i64.wrap 16 = 16 := by decide
 have n1 : ((1 : Nat) : Int) = 1 := rfl
 (refine CallA.of_body Try.func62 rfl (by rfl) ?_; simp only [Try.ntmps62, List.length_cons, List.length_nil, List.replicate, List.cons_append, List.nil_append, Nat.reduceSub, Nat.reduceAdd])
 (repeat (first | refine st ?_ | refine σa ?_ | refine d62_Ms2 ?_ | ((first | refine a62_Ms2 ?_ | refine σy_Ms2 ?_ | refine σc ?_); simp (disch := omega) only [push_cast, ↓reduceIte, reduceCtorEq, ν1, ν2, ν3, ν4, ν5, ζ1, ζ2, ζ3, ζ4, ζ5, hs, hn, w0, w1, w16, n1]) | (refine AL.pu rfl ?_; simp (disch := omega) only [push_cast, ↓reduceIte, reduceCtorEq, ν1, ν2, ν3, ν4, ν5, ζ1, ζ2, ζ3, ζ4, ζ5, hs, hn, w0, w1, w16, n1]; refine id (α := AL _ _ _ _ _ _) ?_)))
 refine AL.ca rfl ?_
 simp (disch := omega) only [push_cast, ↓reduceIte, reduceCtorEq, Nat.reduceAdd, Nat.reduceMul, Nat.reduceLeDiff, Nat.reduceLT, Nat.reduceSub, Int.reduceNe, Int.reduceEq, Int.reduceLE, Int.reduceLT, Int.reduceToNat]
 refine (mul_spec M).mono ?_
 rintro r M2 ⟨rfl, rfl⟩
 (repeat (first | refine st ?_ | refine σa ?_ | refine d62_Ms2 ?_ | ((first | refine a62_Ms2 ?_ | refine σy_Ms2 ?_ | refine σc ?_); simp (disch := omega) only [push_cast, ↓reduceIte, reduceCtorEq, ν1, ν2, ν3, ν4, ν5, ζ1, ζ2, ζ3, ζ4, ζ5, hs, hn, w0, w1, w16, wi1, wi16, n1]) | (refine AL.pu rfl ?_; simp (disch := omega) only [push_cast, ↓reduceIte, reduceCtorEq, ν1, ν2, ν3, ν4, ν5, ζ1, ζ2, ζ3, ζ4, ζ5, hs, hn, w0, w1, w16, wi1, wi16, n1]; refine id (α := AL _ _ _ _ _ _) ?_)))
 refine AL.mz (f := 101) (fn := Try.f101) (ty := 39) (e := 5) (n := 16) rfl rfl rfl nz_fn rfl (by kernel_rfl) nz_next nz_find (by kernel_rfl) (by kernel_rfl) rfl (by omega) (by omega) fun xs hxs => ?_
 simp (disch := omega) only [push_cast, ↓reduceIte, reduceCtorEq, Nat.reduceAdd, Nat.reduceMul, Nat.reduceLeDiff, Nat.reduceLT, Nat.reduceSub, Int.reduceNe, Int.reduceEq, Int.reduceLE, Int.reduceLT, Int.reduceToNat]
 have as1 : aslice (.slice (some ⟨M2.length, 0, none⟩) 16 (capLow + 16)) 1 none (some (.int .i64 16)) (some (.int .i64 16)) = some (.slice (some ⟨M2.length, 0, none⟩) 16 16) := aslice_full (n := 16) (by show 16 < 4611686018427387904; omega)
 have F3 := Fr.push M2 (.row true 1 (ints .u8 xs))
 have A3 := At.push M2 (.row true 1 (ints .u8 xs))
 have hsz : szOk (M2 ++ [.row true 1 (ints .u8 xs)]) (.slice (some ⟨M2.length, 0, none⟩) 16 (capLow + 16)) 1 := (Own.row (s := 1) (n := 16) (c := capLow + 16) (by omega) A3.get (by rw [ints_length, hxs]) (ints_one _ _) (capLb_add _)).sl.sz
 obtain ⟨M3, hM3⟩ : ∃ M3, M3 = M2 ++ [.row true 1 (ints .u8 xs)] := ⟨_, rfl⟩
 rw [← hM3] at F3 A3 hsz ⊢
 (repeat (first | refine st ?_ | refine σa ?_ | refine d62_Ms2 ?_ | ((first | refine a62_Ms2 ?_ | refine σy_Ms2 ?_ | refine σc ?_); simp (disch := omega) only [push_cast, ↓reduceIte, reduceCtorEq, ν1, ν2, ν3, ν4, ν5, ζ1, ζ2, ζ3, ζ4, ζ5, hs, hn, w0, w1, w16, wi1, wi16, n1, as1, hsz, Option.map_none]) | (refine AL.pu rfl ?_; simp (disch := omega) only [push_cast, ↓reduceIte, reduceCtorEq, ν1, ν2, ν3, ν4, ν5, ζ1, ζ2, ζ3, ζ4, ζ5, hs, hn, w0, w1, w16, wi1, wi16, n1, as1, hsz, Option.map_none]; refine id (α := AL _ _ _ _ _ _) ?_)))
 refine ⟨5, 5, M2.length, 0, 16, 16, ints .u8 xs, ints .u8 [255], by kernel_rfl, by kernel_rfl, by kernel_rfl, rfl, A3.get, hv.keep F3 (by simp), by show 1 ≤ 16; omega, by show 0 < 1; omega, by show 0 + 1 ≤ _; rw [ints_length]; omega, ?_⟩
 have A4 := A3.set (.row true 1 (spl (ints .u8 xs) 0 (ints .u8 [255])))
 have F4 : Fr M2 _ [] := (F3.trans (Fr.set M3 M2.length (.row true 1 (spl (ints .u8 xs) 0 (ints .u8 [255]))))).cut (fun b hb hlt => by simp at hb; omega)
 have e4 : spl (ints .u8 xs) 0 (ints .u8 [255]) = ints .u8 (List.replicate 1 255 ++ xs.drop 1) := by simp [spl, ints]
 rw [e4] at A4 F4 ⊢
 generalize M3.set M2.length (.row true 1 (ints .u8 (List.replicate 1 255 ++ xs.drop 1))) = M4 at *
 (repeat (first | refine st ?_ | refine σa ?_ | refine d62_Ms2 ?_ | ((first | refine a62_Ms2 ?_ | refine σy_Ms2 ?_ | refine σc ?_); simp (disch := omega) only [push_cast, ↓reduceIte, reduceCtorEq, ν1, ν2, ν3, ν4, ν5, ζ1, ζ2, ζ3, ζ4, ζ5]) | (refine AL.pu rfl ?_; simp (disch := omega) only [push_cast, ↓reduceIte, reduceCtorEq, ν1, ν2, ν3, ν4, ν5, ζ1, ζ2, ζ3, ζ4, ζ5]; refine id (α := AL _ _ _ _ _ _) ?_)))
 refine AW.loopF [10, 11, 61, 62, 63, 64, 65, 66, 67, 68, 69, 70, 71, 72, 73, 74, 75] (fun n g M' => ∃ k : Nat, (k = 1 ∨ k = 2 ∨ k = 4 ∨ k = 8 ∨ k = 16) ∧ g 10 = .int .i64 k ∧ k + n = 16 ∧ Fr M2 M' [] ∧ ∃ zs, zs.length = 16 - k ∧ At M' M2.length (.row true 1 (ints .u8 (List.replicate k 255 ++ zs)))) 15 ?_ ?_
 ·exact ⟨1, .inl rfl, rfl, rfl, F4, xs.drop 1, by rw [List.length_drop, hxs], A4⟩
 rintro n g M5 ⟨k, hk, h10, hkn, F5, zs, hz, A5⟩
 simp (disch := omega) only [push_cast, ↓reduceIte, reduceCtorEq, Nat.reduceAdd, Nat.reduceMul, Nat.reduceLeDiff, Nat.reduceLT, Nat.reduceSub, Int.reduceNe, Int.reduceEq, Int.reduceLE, Int.reduceLT, Int.reduceToNat, h10]
 by_cases hlt : k < 16
 ·have hk8 : k ≤ 8 := by omega
  have dlt : decide ((k : Int) < 16) = true := decide_eq_true (by omega)
  obtain ⟨r, hr⟩ : ∃ r, r = 16 - k := ⟨_, rfl⟩
  have own5 := Own.row (s := 1) (n := 16) (c := 16) (by omega) A5.get (by rw [ints_length, List.length_append, List.length_replicate, hz]; omega) (ints_one _ _) cap16
  have hsz5 := own5.sl.sz
  have b1 : aslice (.slice (some ⟨M2.length, 0, none⟩) 16 16) 1 (some (.int .i64 (k : Int))) none none = some (.slice (some ⟨M2.length, k, none⟩) (16 - k) (16 - k)) := by
   have := aslice_from (b := M2.length) (off := 0) (n := 16) (c := 16) (s := 1) (k := k) (by omega)
   rw [Nat.zero_add, Nat.mul_one] at this
   rw [this, capSub_small (n := 16) (l := k) (by omega)]
  have b2 : aslice (.slice (some ⟨M2.length, 0, none⟩) 16 16) 1 none (some (.int .i64 (k : Int))) none = some (.slice (some ⟨M2.length, 0, none⟩) k 16) := by
   rw [aslice_to (Nat.le_trans (by omega) cap16), capSub_small (n := 16) (l := 0) (by omega)]
  have hmin : (if (16 : Int) < k then (16 : Int) else k) = k := by rw [if_neg (by omega)]
  have hbl5 := own5.sl.blks
  (repeat (first | refine st ?_ | refine σa ?_ | refine d62_Ms2 ?_ | ((first | refine a62_Ms2 ?_ | refine σy_Ms2 ?_ | refine σc ?_); simp (disch := omega) only [push_cast, ↓reduceIte, reduceCtorEq, ν1, ν2, ν3, ν4, ν5, ζ1, ζ2, ζ3, ζ4, ζ5, b1, b2, hsz5, hbl5, hmin, dlt, Option.map_none]) | (refine AL.pu rfl ?_; simp (disch := omega) only [push_cast, ↓reduceIte, reduceCtorEq, ν1, ν2, ν3, ν4, ν5, ζ1, ζ2, ζ3, ζ4, ζ5, b1, b2, hsz5, hbl5, hmin, dlt, Option.map_none]; refine id (α := AL _ _ _ _ _ _) ?_)))
  obtain ⟨w, hw, pw⟩ := own5.sl.pcTo k (by rw [List.length_append, List.length_replicate, hz]; omega)
  rw [b2] at hw
  obtain rfl := Option.some.inj hw
  have hs5 := pw.sl
  rw [List.take_append_of_le_length (by rw [List.length_replicate]; omega), List.take_of_length_le (by rw [List.length_replicate]; omega)] at hs5
  have lk : (ints .u8 (List.replicate k 255)).length = k := by rw [ints_length, List.length_replicate]
  refine ⟨5, 5, M2.length, k, 16 - k, 16 - k, _, ints .u8 (List.replicate k 255), by kernel_rfl, by kernel_rfl, by kernel_rfl, rfl, A5.get, hs5, by rw [lk]; omega, by rw [lk]; omega, by rw [lk, ints_length, List.length_append, List.length_replicate, hz]; omega, ?_⟩
  have A6 := A5.set (.row true 1 (spl (ints .u8 (List.replicate k 255 ++ zs)) k (ints .u8 (List.replicate k 255))))
  have F6 : Fr M2 _ [] := (F5.trans (Fr.set M5 M2.length (.row true 1 (spl (ints .u8 (List.replicate k 255 ++ zs)) k (ints .u8 (List.replicate k 255)))))).cut (fun b hb hlt => by simp at hb; omega)
  have e6 : spl (ints .u8 (List.replicate k 255 ++ zs)) k (ints .u8 (List.replicate k 255)) = ints .u8 (List.replicate (k + k) 255 ++ zs.drop k) := by
   unfold spl
   rw [lk, ints_take, ints_drop, ints_append, ints_append, List.take_append_of_le_length (by rw [List.length_replicate]; omega), List.take_of_length_le (by rw [List.length_replicate]; omega), List.drop_append, List.drop_eq_nil_of_le (by rw [List.length_replicate]; omega), List.length_replicate, Nat.add_sub_cancel, List.nil_append, show List.replicate (k + k) (255 : Int) = List.replicate k 255 ++ List.replicate k 255 from by rw [List.replicate_append_replicate]]
  rw [e6] at A6 F6 ⊢
  rw [lk]
  generalize M5.set M2.length (.row true 1 (ints .u8 (List.replicate (k + k) 255 ++ zs.drop k))) = M6 at *
  have wkk : IntKind.i64.wrap ((k : Int) + k) = ((k + k : Nat) : Int) := by rw [w_i64 (by omega) (by omega)]; omega
  (repeat (first | refine st ?_ | refine σa ?_ | refine d62_Ms2 ?_ | ((first | refine a62_Ms2 ?_ | refine σy_Ms2 ?_ | refine σc ?_); simp (disch := omega) only [push_cast, ↓reduceIte, reduceCtorEq, ν1, ν2, ν3, ν4, ν5, ζ1, ζ2, ζ3, ζ4, ζ5, wkk]) | (refine AL.pu rfl ?_; simp (disch := omega) only [push_cast, ↓reduceIte, reduceCtorEq, ν1, ν2, ν3, ν4, ν5, ζ1, ζ2, ζ3, ζ4, ζ5, wkk]; refine id (α := AL _ _ _ _ _ _) ?_)))
  refine ⟨rfl, n - k, by omega, k + k, by omega, by show Value.int .i64 ((k : Int) + k) = .int .i64 ((k + k : Nat) : Int); rw [Int.natCast_add], by omega, F6, zs.drop k, by rw [List.length_drop, hz]; omega, A6⟩
 ·obtain rfl : k = 16 := by omega
  have dlt : decide (((16 : Nat) : Int) < 16) = false := by decide
  have dlt' : decide ((16 : Int) < 16) = false := by decide
  have n16 : ((16 : Nat) : Int) = 16 := rfl
  rw [n16]
  (repeat (first | refine st ?_ | refine σn ?_ | refine d62_Ms2 ?_ | ((first | refine a62_Ms2 ?_ | refine σb_Ms2 ?_ | refine σc ?_); simp (disch := omega) only [push_cast, ↓reduceIte, reduceCtorEq, ν1, ν2, ν3, ν4, ν5, ζ1, ζ2, ζ3, ζ4, ζ5, dlt'])))
  refine AW.condF rfl rfl rfl ?_
  (repeat (first | refine st ?_ | refine σa ?_ | refine d62_Ms2 ?_ | ((first | refine a62_Ms2 ?_ | refine σb_Ms2 ?_ | refine σc ?_); simp (disch := omega) only [push_cast, ↓reduceIte, reduceCtorEq, ν1, ν2, ν3, ν4, ν5, ζ1, ζ2, ζ3, ζ4, ζ5])))
  ((first | refine retA.ret (by rfl) ?_ | refine retA.normal (by rfl) ?_); simp (disch := omega) only [push_cast, ↓reduceIte, reduceCtorEq, Nat.reduceAdd, Nat.reduceMul, Nat.reduceLeDiff, Nat.reduceLT, Nat.reduceSub, Int.reduceNe, Int.reduceEq, Int.reduceLE, Int.reduceLT, Int.reduceToNat])
  obtain rfl : zs = [] := List.eq_nil_of_length_eq_zero hz
  rw [List.append_nil] at A5
  exact ⟨F5, Own.row (by omega) A5.get rfl (ints_one _ _) cap16, fun a n c h hc => by cases h; exact Nat.le_refl _⟩
theorem a99_Ms1 {g n : Prop} (k : n) (h : n → g := by first | exact AL.mk rfl | exact AL.cp rfl rfl) : g := h k
theorem a87_Ms1 {g n : Prop} (k : n) (h : n → g := by first | exact AL.mk rfl | exact AL.cp rfl rfl) : g := h k
theorem d52_Ms1 {g n : Prop} (k : n) (h : n → g := by first | exact AW.dr (id := 1) (by rfl) [0, 1, 2, 3, 4, 5, 6, 7, 8, 9, 10] (by kernel_rfl) (by kernel_rfl)) : g := h k
theorem a52_Ms1 {g n : Prop} (k : n) (h : n → g := by first | exact AL.mk rfl | exact AL.cp rfl rfl | exact AH.mk rfl | exact AH.cpN rfl rfl (by kernel_rfl)) : g := h k
theorem d119_Ms1 {g n : Prop} (k : n) (h : n → g := by first | exact AW.dr (id := 1) (by rfl) [0, 4, 5, 1, 2, 3, 6, 7, 8, 9] (by kernel_rfl) (by kernel_rfl)) : g := h k
theorem a119_Ms1 {g n : Prop} (k : n) (h : n → g := by first | exact AL.mk rfl | exact AL.cp rfl rfl | exact AH.ca (dst := some 4) rfl | exact AH.caN (dst := some 9) rfl (by kernel_rfl) | exact AH.mk rfl | exact AH.cpN rfl rfl (by kernel_rfl)) : g := h k
theorem a85_Ms1 {g n : Prop} (k : n) (h : n → g := by first | exact AL.mk rfl | exact AL.cp rfl rfl) : g := h k
theorem a82_Ms1 {g n : Prop} (k : n) (h : n → g := by first | exact AL.mk rfl | exact AL.cp rfl rfl) : g := h k
theorem a83_Ms1 {g n : Prop} (k : n) (h : n → g := by first | exact AL.mk rfl | exact AL.cp rfl rfl) : g := h k
theorem a84_Ms1 {g n : Prop} (k : n) (h : n → g := by first | exact AL.mk rfl | exact AL.cp rfl rfl) : g := h k
theorem or64r {x y : Int} (hx : isByte x) (hy : isByte y) : bits .i64 (BitVec.ofInt IntKind.i64.bits (y * 256) ||| BitVec.ofInt IntKind.i64.bits x) = .int .i64 (y * 256 + x) := by
 rw [BitVec.or_comm]; exact or64 hx hy
theorem octet_spec (n : Int) (M : Mem)  : CallA Try.prog 99 [.int .i64 n] M fun r M' => M' = M ∧ r = .bool (decide (0 ≤ n ∧ n ≤ 255)) := by
 (refine CallA.of_body Try.func99 rfl (by rfl) ?_; simp only [Try.ntmps99, List.length_cons, List.length_nil, List.replicate, List.cons_append, List.nil_append, Nat.reduceSub, Nat.reduceAdd])
 (repeat (first | refine st ?_ | refine σa ?_ | ((first | refine a99_Ms1 ?_ | refine σb ?_); simp (disch := omega) only [push_cast, ↓reduceIte, reduceCtorEq, ν1, ν2, ν3, ν4, ν5, ζ1, ζ2, ζ3, ζ4, ζ5, wm_u8, w_i64])))
 ((first | refine retA.ret (by rfl) ?_ | refine retA.normal (by rfl) ?_); simp (disch := omega) only [push_cast, ↓reduceIte, reduceCtorEq, Nat.reduceAdd, Nat.reduceMul, Nat.reduceLeDiff, Nat.reduceLT, Nat.reduceSub, Int.reduceNe, Int.reduceEq, Int.reduceLE, Int.reduceLT, Int.reduceToNat])
 refine congrArg _ ?_
 simp only [decide_eq_decide]
 omega
theorem short_spec (n : Int) (M : Mem) (h : u32 n) : CallA Try.prog 87 [.int .u32 n] M fun r M' => M' = M ∧ r = .int .u16 (shortP n) := by
 have h1 := h.1
 have h2 := h.2
 (refine CallA.of_body Try.func87 rfl (by rfl) ?_; simp only [Try.ntmps87, List.length_cons, List.length_nil, List.replicate, List.cons_append, List.nil_append, Nat.reduceSub, Nat.reduceAdd])
 by_cases c : n > 65535
 ·have d : decide (n = n % 65536) = false := decide_eq_false (by omega)
  (repeat (first | refine st ?_ | refine σa ?_ | ((first | refine a87_Ms1 ?_ | refine σb ?_); simp (disch := omega) only [push_cast, ↓reduceIte, reduceCtorEq, ν1, ν2, ν3, ν4, ν5, ζ1, ζ2, ζ3, ζ4, ζ5, wm_u16, w_u32, d, Bool.not_false])))
  ((first | refine retA.ret (by rfl) ?_ | refine retA.normal (by rfl) ?_); simp (disch := omega) only [push_cast, ↓reduceIte, reduceCtorEq, Nat.reduceAdd, Nat.reduceMul, Nat.reduceLeDiff, Nat.reduceLT, Nat.reduceSub, Int.reduceNe, Int.reduceEq, Int.reduceLE, Int.reduceLT, Int.reduceToNat])
  unfold shortP; rw [if_pos c]
 ·have d : decide (n = n % 65536) = true := decide_eq_true (by omega)
  have e : n % 65536 = n := by omega
  (repeat (first | refine st ?_ | refine σa ?_ | ((first | refine a87_Ms1 ?_ | refine σb ?_); simp (disch := omega) only [push_cast, ↓reduceIte, reduceCtorEq, ν1, ν2, ν3, ν4, ν5, ζ1, ζ2, ζ3, ζ4, ζ5, wm_u16, w_u32, d, e, Bool.not_true])))
  ((first | refine retA.ret (by rfl) ?_ | refine retA.normal (by rfl) ?_); simp (disch := omega) only [push_cast, ↓reduceIte, reduceCtorEq, Nat.reduceAdd, Nat.reduceMul, Nat.reduceLeDiff, Nat.reduceLT, Nat.reduceSub, Int.reduceNe, Int.reduceEq, Int.reduceLE, Int.reduceLT, Int.reduceToNat])
  unfold shortP; rw [if_neg c]
theorem pair_spec (v : Value) (xs : List Int) (M : Mem) (hv : Sl M v 1 (ints .u8 xs)) (hx : 2 ≤ xs.length) (hb : ∀ x ∈ xs, 0 ≤ x ∧ x ≤ 255) : CallA Try.prog 52 [v] M fun r M' => M' = M ∧ r = .int .i64 (pairAt xs 0) := by
 have hs := hv.isSl
 have hn := hv.lnI
 have hld := fun i h1 => hv.ldN (P := Try.prog) (ty := 5) (i := i) (by kernel_rfl) h1
 have hl0 := fun h1 => hv.ld0 (P := Try.prog) (ty := 5) (by kernel_rfl) h1
 have b0 := getD_byte hb 0
 have b1 := getD_byte hb 1
 have b01 := b0.1
 have b02 := b0.2
 have b11 := b1.1
 have b12 := b1.2
 have or1 := or64r b1 b0
 have s8 : (2 : Int) ^ min 8 IntKind.i64.bits = 256 := by decide
 (refine CallA.of_body Try.func52 rfl (by rfl) ?_; simp only [Try.ntmps52, List.length_cons, List.length_nil, List.replicate, List.cons_append, List.nil_append, Nat.reduceSub, Nat.reduceAdd])
 (repeat (first | refine st ?_ | refine σa ?_ | refine d52_Ms1 ?_ | ((first | refine a52_Ms1 ?_ | refine σb ?_ | refine σc ?_); simp (disch := omega) only [push_cast, ↓reduceIte, reduceCtorEq, ν1, ν2, ν3, ν4, ν5, ζ1, ζ2, ζ3, ζ4, ζ5, hs, hn, hld, hl0, w_i64, s8, or1])))
 ((first | refine retA.ret (by rfl) ?_ | refine retA.normal (by rfl) ?_); simp (disch := omega) only [push_cast, ↓reduceIte, reduceCtorEq, Nat.reduceAdd, Nat.reduceMul, Nat.reduceLeDiff, Nat.reduceLT, Nat.reduceSub, Int.reduceNe, Int.reduceEq, Int.reduceLE, Int.reduceLT, Int.reduceToNat])
 rfl
theorem quad_spec (v : Value) (xs : List Int) (M : Mem) (hv : Sl M v 1 (ints .u8 xs)) (hx : 4 ≤ xs.length) (hb : ∀ x ∈ xs, 0 ≤ x ∧ x ≤ 255) : CallA Try.prog 119 [v] M fun r M' => M' = M ∧ r = .int .u32 (wordAt xs 0) := by
 have hs := hv.isSl
 have hn := hv.lnI
 obtain ⟨w, hw, p⟩ := hv.pcFrom 2 (by omega)
 have hw' : aslice v 1 (some (.int .i64 2)) none none = some w := hw
 have b0 := getD_byte hb 0
 have b1 := getD_byte hb 1
 have b2 := getD_byte hb 2
 have b3 := getD_byte hb 3
 unfold isByte at b0 b1 b2 b3
 have e2 : pairAt (xs.drop 2) 0 = pairAt xs 2 := by unfold pairAt; simp [List.getD_eq_getElem?_getD]
 have hsz := hv.sz
 have s16 : (2 : Int) ^ min 16 IntKind.u32.bits = 65536 := by decide
 have q0 : 0 ≤ pairAt xs 0 ∧ pairAt xs 0 ≤ 65535 := by show 0 ≤ xs.getD 0 0 * 256 + xs.getD 1 0 ∧ xs.getD 0 0 * 256 + xs.getD 1 0 ≤ 65535; omega
 have q2 : 0 ≤ pairAt xs 2 ∧ pairAt xs 2 ≤ 65535 := by show 0 ≤ xs.getD 2 0 * 256 + xs.getD 3 0 ∧ xs.getD 2 0 * 256 + xs.getD 3 0 ≤ 65535; omega
 have or1 := or32 16 (pairAt xs 0 * 65536) (pairAt xs 2) (by omega) (by omega) q2.1 (by omega) (by omega)
 have ew : wordAt xs 0 = pairAt xs 0 * 65536 + pairAt xs 2 := by show xs.getD 0 0 * 16777216 + xs.getD 1 0 * 65536 + xs.getD 2 0 * 256 + xs.getD 3 0 = (xs.getD 0 0 * 256 + xs.getD 1 0) * 65536 + (xs.getD 2 0 * 256 + xs.getD 3 0); omega
 rw [ew]
 obtain ⟨a, ha⟩ : ∃ a, a = pairAt xs 0 := ⟨_, rfl⟩
 rw [← ha] at q0 or1 ⊢
 obtain ⟨b, hb2⟩ : ∃ b, b = pairAt xs 2 := ⟨_, rfl⟩
 rw [← hb2] at q2 or1 e2 ⊢
 have q01 := q0.1
 have q02 := q0.2
 have q21 := q2.1
 have q22 := q2.2
 (refine CallA.of_body Try.func119 rfl (by rfl) ?_; simp only [Try.ntmps119, List.length_cons, List.length_nil, List.replicate, List.cons_append, List.nil_append, Nat.reduceSub, Nat.reduceAdd])
 have hbl := hv.blks
 (repeat (first | refine st ?_ | refine σa ?_ | refine d119_Ms1 ?_ | ((first | refine a119_Ms1 ?_ | refine σb ?_ | refine σc ?_); simp (disch := omega) only [push_cast, ↓reduceIte, reduceCtorEq, ν1, ν2, ν3, ν4, ν5, ζ1, ζ2, ζ3, ζ4, ζ5, hs, hw', hsz, hbl, Option.map_none])))
 refine (pair_spec v xs M hv (by omega) hb).mono ?_
 rintro r M2 ⟨rfl, rfl⟩
 refine ⟨Fr.refl _, ?_⟩
 rw [← ha]
 (repeat (first | refine st ?_ | refine σa ?_ | refine d119_Ms1 ?_ | ((first | refine a119_Ms1 ?_ | refine σb ?_ | refine σc ?_); simp (disch := omega) only [push_cast, ↓reduceIte, reduceCtorEq, ν1, ν2, ν3, ν4, ν5, ζ1, ζ2, ζ3, ζ4, ζ5, w_u32])))
 refine (pair_spec w _ M2 p.sl (by rw [List.length_drop]; omega) (fun x h => hb x (List.mem_of_mem_drop h))).mono ?_
 rintro r M3 ⟨rfl, rfl⟩
 rw [e2]
 (repeat (first | refine st ?_ | refine σa ?_ | refine d119_Ms1 ?_ | ((first | refine a119_Ms1 ?_ | refine σb ?_ | refine σc ?_); simp (disch := omega) only [push_cast, ↓reduceIte, reduceCtorEq, ν1, ν2, ν3, ν4, ν5, ζ1, ζ2, ζ3, ζ4, ζ5, w_u32, s16, or1])))
 ((first | refine retA.ret (by rfl) ?_ | refine retA.normal (by rfl) ?_); simp (disch := omega) only [push_cast, ↓reduceIte, reduceCtorEq, Nat.reduceAdd, Nat.reduceMul, Nat.reduceLeDiff, Nat.reduceLT, Nat.reduceSub, Int.reduceNe, Int.reduceEq, Int.reduceLE, Int.reduceLT, Int.reduceToNat])
def RdA (M : Mem) (p lo : Nat) (xs : List Int) (sh : Bool) : Prop := ∃ v, At M p (.box [v, .bool sh]) ∧ Sl M v 1 (ints .u8 xs) ∧ lo ≤ p ∧ ∀ b ∈ blkOf v, b < lo
def takeL (n : Nat) (xs : List Int) : List Int := if xs.length < n then List.replicate n 0 else xs.take n
theorem rtake_spec (p lo n : Nat) (xs : List Int) (sh : Bool) (M : Mem) (hr : RdA M p lo xs sh) (hn : n ≤ 100000) : CallA Try.prog 85 [.pointer (some ⟨p, 0, none⟩), .int .i64 n] M fun r M' => Fr M M' [p] ∧ RdA M' p lo (xs.drop n) (sh || decide (xs.length < n)) ∧ Sl M' r 1 (ints .u8 (takeL n xs)) ∧ (∀ b ∈ blkOf r, b < lo ∨ M.length ≤ b) := by
 obtain ⟨v, hat, hv, hlo, hvl⟩ := hr
 have hp : p ∉ blkOf v := fun h => by have := hvl p h; omega
 have hs := hv.isSl
 have hl := hv.lnI
 (refine CallA.of_body Try.func85 rfl (by rfl) ?_; simp only [Try.ntmps85, List.length_cons, List.length_nil, List.replicate, List.cons_append, List.nil_append, Nat.reduceSub, Nat.reduceAdd])
 by_cases c : xs.length < n
 ·have d : decide ((xs.length : Int) < n) = true := decide_eq_true (by omega)
  rw [decide_eq_true c, Bool.or_true]
  have g2 := (hat.set (.box [v, .bool true])).get
  (repeat (first | refine st ?_ | refine σa ?_ | ((first | refine a85_Ms1 ?_ | refine σb ?_); simp (disch := omega) only [push_cast, ↓reduceIte, reduceCtorEq, ν1, ν2, ν3, ν4, ν5, ζ1, ζ2, ζ3, ζ4, ζ5, hs, hl, d, hat.ld, hat.get, hat.same, g2, List.drop_nil, List.append_nil, boxE])))
  refine mkK.ints (P := Try.prog) (e := 5) (bt := 1) (k := .u8) (by kernel_rfl) (by kernel_rfl) (by kernel_rfl) (by kernel_rfl) (Nat.le_refl _) (by omega) (by omega) ?_
  (repeat (first | refine st ?_ | refine σa ?_ | ((first | refine a85_Ms1 ?_ | refine σb ?_); simp (disch := omega) only [push_cast, ↓reduceIte, reduceCtorEq, ν1, ν2, ν3, ν4, ν5, ζ1, ζ2, ζ3, ζ4, ζ5])))
  ((first | refine retA.ret (by rfl) ?_ | refine retA.normal (by rfl) ?_); simp (disch := omega) only [push_cast, ↓reduceIte, reduceCtorEq, Nat.reduceAdd, Nat.reduceMul, Nat.reduceLeDiff, Nat.reduceLT, Nat.reduceSub, Int.reduceNe, Int.reduceEq, Int.reduceLE, Int.reduceLT, Int.reduceToNat])
  have A2 : At (M.set p (.box [.slice none 0 0, .bool true])) p (.box [.slice none 0 0, .bool true]) := hat.set _
  have f1 := Fr.set M p (.box [.slice none 0 0, .bool true])
  have hlen : (M.set p (.box [.slice none 0 0, .bool true])).length = M.length := by simp
  generalize M.set p (.box [.slice none 0 0, .bool true]) = M1 at *
  have r := New.row M1 (s := 1) (n := n) (cs := ints .u8 (List.replicate n 0)) (by omega) (by rw [ints_length]; simp) (ints_one _ _) (by show n < 4611686018427387904; omega)
  have f2 := Fr.push M1 (.row true 1 (ints .u8 (List.replicate n 0)))
  have hpl := hat.lt
  rw [hlen] at r
  refine ⟨f1.tr' f2, ⟨.slice none 0 0, A2.keep f2 (by simp), ?_, hlo, by simp [blkOf]⟩, by unfold takeL; rw [if_pos c]; exact r.sl, fun b h => .inr ?_⟩
  ·rw [List.drop_eq_nil_of_le (by omega)]; exact Sl.nil _ (by omega)
  ·have : b = M.length := by simp [blkOf] at h; exact h.2
   omega
 ·have d : decide ((xs.length : Int) < n) = false := decide_eq_false (by omega)
  obtain ⟨w1, hw1, p1⟩ := hv.pcTo n (by omega)
  obtain ⟨w2, hw2, p2⟩ := hv.pcFrom n (by omega)
  have hsz := hv.sz
  have hbl := hv.blks
  have c2 := isSl_cl p2.sl.isSl
  have o2 := isSl_one p2.sl.isSl
  simp only [Value.oneCell'] at o2
  (repeat (first | refine st ?_ | refine σa ?_ | ((first | refine a85_Ms1 ?_ | refine σb ?_); simp (disch := omega) only [push_cast, ↓reduceIte, reduceCtorEq, ν1, ν2, ν3, ν4, ν5, ζ1, ζ2, ζ3, ζ4, ζ5, hs, hl, d, hat.ld, hat.get, hat.same, hw1, hw2, hsz, hbl, c2, o2, Option.map_none, List.drop_nil, List.append_nil, boxE])))
  ((first | refine retA.ret (by rfl) ?_ | refine retA.normal (by rfl) ?_); simp (disch := omega) only [push_cast, ↓reduceIte, reduceCtorEq, Nat.reduceAdd, Nat.reduceMul, Nat.reduceLeDiff, Nat.reduceLT, Nat.reduceSub, Int.reduceNe, Int.reduceEq, Int.reduceLE, Int.reduceLT, Int.reduceToNat])
  have f := Fr.set M p (.box [w2, .bool sh])
  have e : takeL n xs = xs.take n := by unfold takeL; rw [if_neg c]
  rw [e, decide_eq_false c, Bool.or_false]
  have q : ∀ b ∈ blkOf v, b ∉ [p] := fun b h h' => hp (by simp at h'; rw [← h']; exact h)
  exact ⟨f, ⟨w2, hat.set _, (p2.keep f q).sl, hlo, fun b h => hvl b (p2.blk b h)⟩, (p1.keep f q).sl, fun b h => .inl (hvl b (p1.blk b h))⟩
theorem takeL_length (n : Nat) (xs : List Int) : (takeL n xs).length = n := by
 unfold takeL
 split
 ·simp
 ·rw [List.length_take]; omega
theorem takeL_byte {n : Nat} {xs : List Int} (hb : ∀ x ∈ xs, 0 ≤ x ∧ x ≤ 255) : ∀ x ∈ takeL n xs, 0 ≤ x ∧ x ≤ 255 := by
 intro x hx
 unfold takeL at hx
 split at hx
 ·rw [(List.mem_replicate.1 hx).2]; omega
 ·exact hb x (List.mem_of_mem_take hx)
theorem roct_spec (p lo : Nat) (xs : List Int) (sh : Bool) (M : Mem) (hr : RdA M p lo xs sh) (hb : ∀ x ∈ xs, 0 ≤ x ∧ x ≤ 255) : CallA Try.prog 82 [.pointer (some ⟨p, 0, none⟩)] M fun r M' => Fr M M' [p] ∧ RdA M' p lo (xs.drop 1) (sh || decide (xs.length < 1)) ∧ r = .int .i64 (xs.getD 0 0) := by
 (refine CallA.of_body Try.func82 rfl (by rfl) ?_; simp only [Try.ntmps82, List.length_cons, List.length_nil, List.replicate, List.cons_append, List.nil_append, Nat.reduceSub, Nat.reduceAdd])
 (repeat (first | refine st ?_ | refine σa ?_ | ((first | refine a82_Ms1 ?_ | refine σb ?_); simp (disch := omega) only [push_cast, ↓reduceIte, reduceCtorEq, ν1, ν2, ν3, ν4, ν5, ζ1, ζ2, ζ3, ζ4, ζ5])))
 refine (rtake_spec p lo 1 xs sh M hr (by omega)).mono ?_
 rintro r M2 ⟨hF, hR, hS, hp⟩
 have hs := hS.isSl
 have hn := hS.lnI
 rw [takeL_length] at hn
 have hl0 := hS.ld0 (P := Try.prog) (ty := 5) (by kernel_rfl) (by rw [takeL_length]; omega)
 have e : (takeL 1 xs).getD 0 0 = xs.getD 0 0 := by
  unfold takeL
  split
  ·cases xs with
   | nil => rfl
   | cons x xs => rename_i h; simp at h
  ·cases xs with
   | nil => rename_i h; simp at h
   | cons x xs => rfl
 have b0 := getD_byte hb 0
 have b01 := b0.1
 have b02 := b0.2
 rw [e] at hl0
 (repeat (first | refine st ?_ | refine σa ?_ | ((first | refine a82_Ms1 ?_ | refine σb ?_); simp (disch := omega) only [push_cast, ↓reduceIte, reduceCtorEq, ν1, ν2, ν3, ν4, ν5, ζ1, ζ2, ζ3, ζ4, ζ5, hs, hn, hl0, w_i64])))
 ((first | refine retA.ret (by rfl) ?_ | refine retA.normal (by rfl) ?_); simp (disch := omega) only [push_cast, ↓reduceIte, reduceCtorEq, Nat.reduceAdd, Nat.reduceMul, Nat.reduceLeDiff, Nat.reduceLT, Nat.reduceSub, Int.reduceNe, Int.reduceEq, Int.reduceLE, Int.reduceLT, Int.reduceToNat])
 exact ⟨hF, hR⟩
theorem rtwo_spec (p lo : Nat) (xs : List Int) (sh : Bool) (M : Mem) (hr : RdA M p lo xs sh) (hb : ∀ x ∈ xs, 0 ≤ x ∧ x ≤ 255) : CallA Try.prog 83 [.pointer (some ⟨p, 0, none⟩)] M fun r M' => Fr M M' [p] ∧ RdA M' p lo (xs.drop 2) (sh || decide (xs.length < 2)) ∧ r = .int .i64 (pairAt (takeL 2 xs) 0) := by
 (refine CallA.of_body Try.func83 rfl (by rfl) ?_; simp only [Try.ntmps83, List.length_cons, List.length_nil, List.replicate, List.cons_append, List.nil_append, Nat.reduceSub, Nat.reduceAdd])
 (repeat (first | refine st ?_ | refine σa ?_ | ((first | refine a83_Ms1 ?_ | refine σb ?_); simp (disch := omega) only [push_cast, ↓reduceIte, reduceCtorEq, ν1, ν2, ν3, ν4, ν5, ζ1, ζ2, ζ3, ζ4, ζ5])))
 refine (rtake_spec p lo 2 xs sh M hr (by omega)).mono ?_
 rintro r M2 ⟨hF, hR, hS, hp⟩
 (repeat (first | refine st ?_ | refine σa ?_ | ((first | refine a83_Ms1 ?_ | refine σb ?_); simp (disch := omega) only [push_cast, ↓reduceIte, reduceCtorEq, ν1, ν2, ν3, ν4, ν5, ζ1, ζ2, ζ3, ζ4, ζ5])))
 refine (pair_spec r _ M2 hS (by rw [takeL_length]; omega) (takeL_byte hb)).mono ?_
 rintro r M3 ⟨rfl, rfl⟩
 (repeat (first | refine st ?_ | refine σa ?_ | ((first | refine a83_Ms1 ?_ | refine σb ?_); simp (disch := omega) only [push_cast, ↓reduceIte, reduceCtorEq, ν1, ν2, ν3, ν4, ν5, ζ1, ζ2, ζ3, ζ4, ζ5])))
 ((first | refine retA.ret (by rfl) ?_ | refine retA.normal (by rfl) ?_); simp (disch := omega) only [push_cast, ↓reduceIte, reduceCtorEq, Nat.reduceAdd, Nat.reduceMul, Nat.reduceLeDiff, Nat.reduceLT, Nat.reduceSub, Int.reduceNe, Int.reduceEq, Int.reduceLE, Int.reduceLT, Int.reduceToNat])
 exact ⟨hF, hR⟩
theorem rfour_spec (p lo : Nat) (xs : List Int) (sh : Bool) (M : Mem) (hr : RdA M p lo xs sh) (hb : ∀ x ∈ xs, 0 ≤ x ∧ x ≤ 255) : CallA Try.prog 84 [.pointer (some ⟨p, 0, none⟩)] M fun r M' => Fr M M' [p] ∧ RdA M' p lo (xs.drop 4) (sh || decide (xs.length < 4)) ∧ r = .int .u32 (wordAt (takeL 4 xs) 0) := by
 (refine CallA.of_body Try.func84 rfl (by rfl) ?_; simp only [Try.ntmps84, List.length_cons, List.length_nil, List.replicate, List.cons_append, List.nil_append, Nat.reduceSub, Nat.reduceAdd])
 (repeat (first | refine st ?_ | refine σa ?_ | ((first | refine a84_Ms1 ?_ | refine σb ?_); simp (disch := omega) only [push_cast, ↓reduceIte, reduceCtorEq, ν1, ν2, ν3, ν4, ν5, ζ1, ζ2, ζ3, ζ4, ζ5])))
 refine (rtake_spec p lo 4 xs sh M hr (by omega)).mono ?_
 rintro r M2 ⟨hF, hR, hS, hp⟩
 (repeat (first | refine st ?_ | refine σa ?_ | ((first | refine a84_Ms1 ?_ | refine σb ?_); simp (disch := omega) only [push_cast, ↓reduceIte, reduceCtorEq, ν1, ν2, ν3, ν4, ν5, ζ1, ζ2, ζ3, ζ4, ζ5])))
 refine (quad_spec r _ M2 hS (by rw [takeL_length]; omega) (takeL_byte hb)).mono ?_
 rintro r M3 ⟨rfl, rfl⟩
 (repeat (first | refine st ?_ | refine σa ?_ | ((first | refine a84_Ms1 ?_ | refine σb ?_); simp (disch := omega) only [push_cast, ↓reduceIte, reduceCtorEq, ν1, ν2, ν3, ν4, ν5, ζ1, ζ2, ζ3, ζ4, ζ5])))
 ((first | refine retA.ret (by rfl) ?_ | refine retA.normal (by rfl) ?_); simp (disch := omega) only [push_cast, ↓reduceIte, reduceCtorEq, Nat.reduceAdd, Nat.reduceMul, Nat.reduceLeDiff, Nat.reduceLT, Nat.reduceSub, Int.reduceNe, Int.reduceEq, Int.reduceLE, Int.reduceLT, Int.reduceToNat])
 exact ⟨hF, hR⟩
end Go.Proofs.Ytbdejnnbpdgjlaa.Ax
