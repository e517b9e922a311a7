/- Contracts of functions over the abstract machine. No conditions: lemmas alone. -/
import Derived.Test.YtbdejnnbpdgjlaaPeerXLibD
import Derived.Test.YtbdejnnbpdgjlaaPeerXP0
import Derived.Test.YtbdejnnbpdgjlaaPeerXP3
import Derived.Test.YtbdejnnbpdgjlaaPeerXP12
import Derived.Test.YtbdejnnbpdgjlaaPeerXP13
import Derived.Test.YtbdejnnbpdgjlaaPeerXP11
import Derived.Test.YtbdejnnbpdgjlaaPeerXP8
import Derived.Test.YtbdejnnbpdgjlaaPeerXP2
namespace Go.Proofs.Ytbdejnnbpdgjlaa.Ax
open Go Go.RowKit
open Nat renaming reduceAdd → ν1, reduceMul → ν2, reduceLeDiff → ν3, reduceLT → ν4, reduceSub → ν5
open Int renaming reduceNe → ζ1, reduceEq → ζ2, reduceLE → ζ3, reduceLT → ζ4, reduceToNat → ζ5
set_option linter.unusedVariables false
set_option linter.unusedSimpArgs false
set_option maxRecDepth 100000
set_option maxHeartbeats 20000000
attribute [local irreducible] thenA blockA scopeA retA AL AW AD ADL AH clrK CallA apure aload bload appK ptrK fnK ares szOk planOk okOps
theorem a99_Ms1 {g n : Prop} (k : n) (h : n → g := by first | exact AL.mk rfl | exact AL.cp rfl rfl) : g := h k
theorem a87_Ms1 {g n : Prop} (k : n) (h : n → g := by first | exact AL.mk rfl | exact AL.cp rfl rfl) : g := h k
theorem d52_Ms1 {g n : Prop} (k : n) (h : n → g := by first | exact AW.dr (id := 1) (by rfl) [0, 1, 2, 3, 4, 5, 6, 7, 8, 9, 10] (by kernel_rfl) (by kernel_rfl)) : g := h k
theorem a52_Ms1 {g n : Prop} (k : n) (h : n → g := by first | exact AL.mk rfl | exact AL.cp rfl rfl | exact AH.mk rfl | exact AH.cpN rfl rfl (by kernel_rfl)) : g := h k
theorem d119_Ms1 {g n : Prop} (k : n) (h : n → g := by first | exact AW.dr (id := 1) (by rfl) [0, 4, 5, 1, 2, 3, 6, 7, 8, 9] (by kernel_rfl) (by kernel_rfl)) : g := h k
theorem a119_Ms1 {g n : Prop} (k : n) (h : n → g := by first | exact AL.mk rfl | exact AL.cp rfl rfl | exact AH.ca (dst := some 4) rfl | exact AH.caN (dst := some 9) rfl (by kernel_rfl) | exact AH.mk rfl | exact AH.cpN rfl rfl (by kernel_rfl)) : g := h k
theorem a85_Ms1 {g n : Prop} (k : n) (h : n → g := by first | exact AL.mk rfl | exact AL.cp rfl rfl) : g := h k
theorem a82_Ms1 {g n : Prop} (k : n) (h : n → g := by first | exact AL.mk rfl | exact AL.cp rfl rfl) : g := h k
theorem a83_Ms1 {g n : Prop} (k : n) (h : n → g := by first | exact AL.mk rfl | exact AL.cp rfl rfl) : g := h k
theorem a84_Ms1 {g n : Prop} (k : n) (h : n → g := by first | exact AL.mk rfl | exact AL.cp rfl rfl) : g := h k
theorem or64r {x y : Int} (hx : isByte x) (hy : isByte y) : bits .i64 (BitVec.ofInt IntKind.i64.bits (y * 256) ||| BitVec.ofInt IntKind.i64.bits x) = .int .i64 (y * 256 + x) := by
 rw [BitVec.or_comm]; exact or64 hx hy
theorem octet_spec (n : Int) (M : Mem)  : CallA Try.prog 99 [.int .i64 n] M fun r M' => M' = M ∧ r = .bool (decide (0 ≤ n ∧ n ≤ 255)) := by
 (refine CallA.of_body Try.func99 rfl (by rfl) ?_; simp only [Try.ntmps99, List.length_cons, List.length_nil, List.replicate, List.cons_append, List.nil_append, Nat.reduceSub, Nat.reduceAdd])
 (repeat (first | refine st ?_ | refine σa ?_ | ((first | refine a99_Ms1 ?_ | refine σb ?_); simp (disch := omega) only [push_cast, ↓reduceIte, reduceCtorEq, ν1, ν2, ν3, ν4, ν5, ζ1, ζ2, ζ3, ζ4, ζ5, wm_u8, w_i64])))
 ((first | refine retA.ret (by rfl) ?_ | refine retA.normal (by rfl) ?_); simp (disch := omega) only [push_cast, ↓reduceIte, reduceCtorEq, Nat.reduceAdd, Nat.reduceMul, Nat.reduceLeDiff, Nat.reduceLT, Nat.reduceSub, Int.reduceNe, Int.reduceEq, Int.reduceLE, Int.reduceLT, Int.reduceToNat])
 refine congrArg _ ?_
 simp only [decide_eq_decide]
 omega
theorem short_spec (n : Int) (M : Mem) (h : u32 n) : CallA Try.prog 87 [.int .u32 n] M fun r M' => M' = M ∧ r = .int .u16 (shortP n) := by
 have h1 := h.1
 have h2 := h.2
 (refine CallA.of_body Try.func87 rfl (by rfl) ?_; simp only [Try.ntmps87, List.length_cons, List.length_nil, List.replicate, List.cons_append, List.nil_append, Nat.reduceSub, Nat.reduceAdd])
 by_cases c : n > 65535
 ·have d : decide (n = n % 65536) = false := decide_eq_false (by omega)
  (repeat (first | refine st ?_ | refine σa ?_ | ((first | refine a87_Ms1 ?_ | refine σb ?_); simp (disch := omega) only [push_cast, ↓reduceIte, reduceCtorEq, ν1, ν2, ν3, ν4, ν5, ζ1, ζ2, ζ3, ζ4, ζ5, wm_u16, w_u32, d, Bool.not_false])))
  ((first | refine retA.ret (by rfl) ?_ | refine retA.normal (by rfl) ?_); simp (disch := omega) only [push_cast, ↓reduceIte, reduceCtorEq, Nat.reduceAdd, Nat.reduceMul, Nat.reduceLeDiff, Nat.reduceLT, Nat.reduceSub, Int.reduceNe, Int.reduceEq, Int.reduceLE, Int.reduceLT, Int.reduceToNat])
  unfold shortP; rw [if_pos c]
 ·have d : decide (n = n % 65536) = true := decide_eq_true (by omega)
  have e : n % 65536 = n := by omega
  (repeat (first | refine st ?_ | refine σa ?_ | ((first | refine a87_Ms1 ?_ | refine σb ?_); simp (disch := omega) only [push_cast, ↓reduceIte, reduceCtorEq, ν1, ν2, ν3, ν4, ν5, ζ1, ζ2, ζ3, ζ4, ζ5, wm_u16, w_u32, d, e, Bool.not_true])))
  ((first | refine retA.ret (by rfl) ?_ | refine retA.normal (by rfl) ?_); simp (disch := omega) only [push_cast, ↓reduceIte, reduceCtorEq, Nat.reduceAdd, Nat.reduceMul, Nat.reduceLeDiff, Nat.reduceLT, Nat.reduceSub, Int.reduceNe, Int.reduceEq, Int.reduceLE, Int.reduceLT, Int.reduceToNat])
  unfold shortP; rw [if_neg c]
theorem pair_spec (v : Value) (xs : List Int) (M : Mem) (hv : Sl M v 1 (ints .u8 xs)) (hx : 2 ≤ xs.length) (hb : ∀ x ∈ xs, 0 ≤ x ∧ x ≤ 255) : CallA Try.prog 52 [v] M fun r M' => M' = M ∧ r = .int .i64 (pairAt xs 0) := by
 have hs := hv.isSl
 have hn := hv.lnI
 have hld := fun i h1 => hv.ldN (P := Try.prog) (ty := 5) (i := i) (by kernel_rfl) h1
 have hl0 := fun h1 => hv.ld0 (P := Try.prog) (ty := 5) (by kernel_rfl) h1
 have b0 := getD_byte hb 0
 have b1 := getD_byte hb 1
 have b01 := b0.1
 have b02 := b0.2
 have b11 := b1.1
 have b12 := b1.2
 have or1 := or64r b1 b0
 have s8 : (2 : Int) ^ min 8 IntKind.i64.bits = 256 := by decide
 (refine CallA.of_body Try.func52 rfl (by rfl) ?_; simp only [Try.ntmps52, List.length_cons, List.length_nil, List.replicate, List.cons_append, List.nil_append, Nat.reduceSub, Nat.reduceAdd])
 (repeat (first | refine st ?_ | refine σa ?_ | refine d52_Ms1 ?_ | ((first | refine a52_Ms1 ?_ | refine σb ?_ | refine σc ?_); simp (disch := omega) only [push_cast, ↓reduceIte, reduceCtorEq, ν1, ν2, ν3, ν4, ν5, ζ1, ζ2, ζ3, ζ4, ζ5, hs, hn, hld, hl0, w_i64, s8, or1])))
 ((first | refine retA.ret (by rfl) ?_ | refine retA.normal (by rfl) ?_); simp (disch := omega) only [push_cast, ↓reduceIte, reduceCtorEq, Nat.reduceAdd, Nat.reduceMul, Nat.reduceLeDiff, Nat.reduceLT, Nat.reduceSub, Int.reduceNe, Int.reduceEq, Int.reduceLE, Int.reduceLT, Int.reduceToNat])
 rfl
theorem quad_spec (v : Value) (xs : List Int) (M : Mem) (hv : Sl M v 1 (ints .u8 xs)) (hx : 4 ≤ xs.length) (hb : ∀ x ∈ xs, 0 ≤ x ∧ x ≤ 255) : CallA Try.prog 119 [v] M fun r M' => M' = M ∧ r = .int .u32 (wordAt xs 0) := by
 have hs := hv.isSl
 have hn := hv.lnI
 obtain ⟨w, hw, p⟩ := hv.pcFrom 2 (by omega)
 have hw' : aslice v 1 (some (.int .i64 2)) none none = some w := hw
 have b0 := getD_byte hb 0
 have b1 := getD_byte hb 1
 have b2 := getD_byte hb 2
 have b3 := getD_byte hb 3
 unfold isByte at b0 b1 b2 b3
 have e2 : pairAt (xs.drop 2) 0 = pairAt xs 2 := by unfold pairAt; simp [List.getD_eq_getElem?_getD]
 have hsz := hv.sz
 have s16 : (2 : Int) ^ min 16 IntKind.u32.bits = 65536 := by decide
 have q0 : 0 ≤ pairAt xs 0 ∧ pairAt xs 0 ≤ 65535 := by show 0 ≤ xs.getD 0 0 * 256 + xs.getD 1 0 ∧ xs.getD 0 0 * 256 + xs.getD 1 0 ≤ 65535; omega
 have q2 : 0 ≤ pairAt xs 2 ∧ pairAt xs 2 ≤ 65535 := by show 0 ≤ xs.getD 2 0 * 256 + xs.getD 3 0 ∧ xs.getD 2 0 * 256 + xs.getD 3 0 ≤ 65535; omega
 have or1 := or32 16 (pairAt xs 0 * 65536) (pairAt xs 2) (by omega) (by omega) q2.1 (by omega) (by omega)
 have ew : wordAt xs 0 = pairAt xs 0 * 65536 + pairAt xs 2 := by show xs.getD 0 0 * 16777216 + xs.getD 1 0 * 65536 + xs.getD 2 0 * 256 + xs.getD 3 0 = (xs.getD 0 0 * 256 + xs.getD 1 0) * 65536 + (xs.getD 2 0 * 256 + xs.getD 3 0); omega
 rw [ew]
 obtain ⟨a, ha⟩ : ∃ a, a = pairAt xs 0 := ⟨_, rfl⟩
 rw [← ha] at q0 or1 ⊢
 obtain ⟨b, hb2⟩ : ∃ b, b = pairAt xs 2 := ⟨_, rfl⟩
 rw [← hb2] at q2 or1 e2 ⊢
 have q01 := q0.1
 have q02 := q0.2
 have q21 := q2.1
 have q22 := q2.2
 (refine CallA.of_body Try.func119 rfl (by rfl) ?_; simp only [Try.ntmps119, List.length_cons, List.length_nil, List.replicate, List.cons_append, List.nil_append, Nat.reduceSub, Nat.reduceAdd])
 have hbl := hv.blks
 (repeat (first | refine st ?_ | refine σa ?_ | refine d119_Ms1 ?_ | ((first | refine a119_Ms1 ?_ | refine σb ?_ | refine σc ?_); simp (disch := omega) only [push_cast, ↓reduceIte, reduceCtorEq, ν1, ν2, ν3, ν4, ν5, ζ1, ζ2, ζ3, ζ4, ζ5, hs, hw', hsz, hbl, Option.map_none])))
 refine (pair_spec v xs M hv (by omega) hb).mono ?_
 rintro r M2 ⟨rfl, rfl⟩
 refine ⟨Fr.refl _, ?_⟩
 rw [← ha]
 (repeat (first | refine st ?_ | refine σa ?_ | refine d119_Ms1 ?_ | ((first | refine a119_Ms1 ?_ | refine σb ?_ | refine σc ?_); simp (disch := omega) only [push_cast, ↓reduceIte, reduceCtorEq, ν1, ν2, ν3, ν4, ν5, ζ1, ζ2, ζ3, ζ4, ζ5, w_u32])))
 refine (pair_spec w _ M2 p.sl (by rw [List.length_drop]; omega) (fun x h => hb x (List.mem_of_mem_drop h))).mono ?_
 rintro r M3 ⟨rfl, rfl⟩
 rw [e2]
 (repeat (first | refine st ?_ | refine σa ?_ | refine d119_Ms1 ?_ | ((first | refine a119_Ms1 ?_ | refine σb ?_ | refine σc ?_); simp (disch := omega) only [push_cast, ↓reduceIte, reduceCtorEq, ν1, ν2, ν3, ν4, ν5, ζ1, ζ2, ζ3, ζ4, ζ5, w_u32, s16, or1])))
 ((first | refine retA.ret (by rfl) ?_ | refine retA.normal (by rfl) ?_); simp (disch := omega) only [push_cast, ↓reduceIte, reduceCtorEq, Nat.reduceAdd, Nat.reduceMul, Nat.reduceLeDiff, Nat.reduceLT, Nat.reduceSub, Int.reduceNe, Int.reduceEq, Int.reduceLE, Int.reduceLT, Int.reduceToNat])
def RdA (M : Mem) (p lo : Nat) (xs : List Int) (sh : Bool) : Prop := ∃ v, At M p (.box [v, .bool sh]) ∧ Sl M v 1 (ints .u8 xs) ∧ lo ≤ p ∧ ∀ b ∈ blkOf v, b < lo
def takeL (n : Nat) (xs : List Int) : List Int := if xs.length < n then List.replicate n 0 else xs.take n
theorem rtake_spec (p lo n : Nat) (xs : List Int) (sh : Bool) (M : Mem) (hr : RdA M p lo xs sh) (hn : n ≤ 100000) : CallA Try.prog 85 [.pointer (some ⟨p, 0, none⟩), .int .i64 n] M fun r M' => Fr M M' [p] ∧ RdA M' p lo (xs.drop n) (sh || decide (xs.length < n)) ∧ Sl M' r 1 (ints .u8 (takeL n xs)) ∧ (∀ b ∈ blkOf r, b < lo ∨ M.length ≤ b) := by
 obtain ⟨v, hat, hv, hlo, hvl⟩ := hr
 have hp : p ∉ blkOf v := fun h => by have := hvl p h; omega
 have hs := hv.isSl
 have hl := hv.lnI
 (refine CallA.of_body Try.func85 rfl (by rfl) ?_; simp only [Try.ntmps85, List.length_cons, List.length_nil, List.replicate, List.cons_append, List.nil_append, Nat.reduceSub, Nat.reduceAdd])
 by_cases c : xs.length < n
 ·have d : decide ((xs.length : Int) < n) = true := decide_eq_true (by omega)
  rw [decide_eq_true c, Bool.or_true]
  have g2 := (hat.set (.box [v, .bool true])).get
  (repeat (first | refine st ?_ | refine σa ?_ | ((first | refine a85_Ms1 ?_ | refine σb ?_); simp (disch := omega) only [push_cast, ↓reduceIte, reduceCtorEq, ν1, ν2, ν3, ν4, ν5, ζ1, ζ2, ζ3, ζ4, ζ5, hs, hl, d, hat.ld, hat.get, hat.same, g2, List.drop_nil, List.append_nil, boxE])))
  refine mkK.ints (P := Try.prog) (e := 5) (bt := 1) (k := .u8) (by kernel_rfl) (by kernel_rfl) (by kernel_rfl) (by kernel_rfl) (Nat.le_refl _) (by omega) (by omega) ?_
  (repeat (first | refine st ?_ | refine σa ?_ | ((first | refine a85_Ms1 ?_ | refine σb ?_); simp (disch := omega) only [push_cast, ↓reduceIte, reduceCtorEq, ν1, ν2, ν3, ν4, ν5, ζ1, ζ2, ζ3, ζ4, ζ5])))
  ((first | refine retA.ret (by rfl) ?_ | refine retA.normal (by rfl) ?_); simp (disch := omega) only [push_cast, ↓reduceIte, reduceCtorEq, Nat.reduceAdd, Nat.reduceMul, Nat.reduceLeDiff, Nat.reduceLT, Nat.reduceSub, Int.reduceNe, Int.reduceEq, Int.reduceLE, Int.reduceLT, Int.reduceToNat])
  have A2 : At (M.set p (.box [.slice none 0 0, .bool true])) p (.box [.slice none 0 0, .bool true]) := hat.set _
  have f1 := Fr.set M p (.box [.slice none 0 0, .bool true])
  have hlen : (M.set p (.box [.slice none 0 0, .bool true])).length = M.length := by simp
  generalize M.set p (.box [.slice none 0 0, .bool true]) = M1 at *
  have r := New.row M1 (s := 1) (n := n) (cs := ints .u8 (List.replicate n 0)) (by omega) (by rw [ints_length]; simp) (ints_one _ _) (by show n < 4611686018427387904; omega)
  have f2 := Fr.push M1 (.row true 1 (ints .u8 (List.replicate n 0)))
  have hpl := hat.lt
  rw [hlen] at r
  refine ⟨f1.tr' f2, ⟨.slice none 0 0, A2.keep f2 (by simp), ?_, hlo, by simp [blkOf]⟩, by unfold takeL; rw [if_pos c]; exact r.sl, fun b h => .inr ?_⟩
  ·rw [List.drop_eq_nil_of_le (by omega)]; exact Sl.nil _ (by omega)
  ·have : b = M.length := by simp [blkOf] at h; exact h.2
   omega
 ·have d : decide ((xs.length : Int) < n) = false := decide_eq_false (by omega)
  obtain ⟨w1, hw1, p1⟩ := hv.pcTo n (by omega)
  obtain ⟨w2, hw2, p2⟩ := hv.pcFrom n (by omega)
  have hsz := hv.sz
  have hbl := hv.blks
  have c2 := isSl_cl p2.sl.isSl
  have o2 := isSl_one p2.sl.isSl
  simp only [Value.oneCell'] at o2
  (repeat (first | refine st ?_ | refine σa ?_ | ((first | refine a85_Ms1 ?_ | refine σb ?_); simp (disch := omega) only [push_cast, ↓reduceIte, reduceCtorEq, ν1, ν2, ν3, ν4, ν5, ζ1, ζ2, ζ3, ζ4, ζ5, hs, hl, d, hat.ld, hat.get, hat.same, hw1, hw2, hsz, hbl, c2, o2, Option.map_none, List.drop_nil, List.append_nil, boxE])))
  ((first | refine retA.ret (by rfl) ?_ | refine retA.normal (by rfl) ?_); simp (disch := omega) only [push_cast, ↓reduceIte, reduceCtorEq, Nat.reduceAdd, Nat.reduceMul, Nat.reduceLeDiff, Nat.reduceLT, Nat.reduceSub, Int.reduceNe, Int.reduceEq, Int.reduceLE, Int.reduceLT, Int.reduceToNat])
  have f := Fr.set M p (.box [w2, .bool sh])
  have e : takeL n xs = xs.take n := by unfold takeL; rw [if_neg c]
  rw [e, decide_eq_false c, Bool.or_false]
  have q : ∀ b ∈ blkOf v, b ∉ [p] := fun b h h' => hp (by simp at h'; rw [← h']; exact h)
  exact ⟨f, ⟨w2, hat.set _, (p2.keep f q).sl, hlo, fun b h => hvl b (p2.blk b h)⟩, (p1.keep f q).sl, fun b h => .inl (hvl b (p1.blk b h))⟩
theorem takeL_length (n : Nat) (xs : List Int) : (takeL n xs).length = n := by
 unfold takeL
 split
 ·simp
 ·rw [List.length_take]; omega
theorem takeL_byte {n : Nat} {xs : List Int} (hb : ∀ x ∈ xs, 0 ≤ x ∧ x ≤ 255) : ∀ x ∈ takeL n xs, 0 ≤ x ∧ x ≤ 255 := by
 intro x hx
 unfold takeL at hx
 split at hx
 ·rw [(List.mem_replicate.1 hx).2]; omega
 ·exact hb x (List.mem_of_mem_take hx)
theorem roct_spec (p lo : Nat) (xs : List Int) (sh : Bool) (M : Mem) (hr : RdA M p lo xs sh) (hb : ∀ x ∈ xs, 0 ≤ x ∧ x ≤ 255) : CallA Try.prog 82 [.pointer (some ⟨p, 0, none⟩)] M fun r M' => Fr M M' [p] ∧ RdA M' p lo (xs.drop 1) (sh || decide (xs.length < 1)) ∧ r = .int .i64 (xs.getD 0 0) := by
 (refine CallA.of_body Try.func82 rfl (by rfl) ?_; simp only [Try.ntmps82, List.length_cons, List.length_nil, List.replicate, List.cons_append, List.nil_append, Nat.reduceSub, Nat.reduceAdd])
 (repeat (first | refine st ?_ | refine σa ?_ | ((first | refine a82_Ms1 ?_ | refine σb ?_); simp (disch := omega) only [push_cast, ↓reduceIte, reduceCtorEq, ν1, ν2, ν3, ν4, ν5, ζ1, ζ2, ζ3, ζ4, ζ5])))
 refine (rtake_spec p lo 1 xs sh M hr (by omega)).mono ?_
 rintro r M2 ⟨hF, hR, hS, hp⟩
 have hs := hS.isSl
 have hn := hS.lnI
 rw [takeL_length] at hn
 have hl0 := hS.ld0 (P := Try.prog) (ty := 5) (by kernel_rfl) (by rw [takeL_length]; omega)
 have e : (takeL 1 xs).getD 0 0 = xs.getD 0 0 := by
  unfold takeL
  split
  ·cases xs with
   | nil => rfl
   | cons x xs => rename_i h; simp at h
  ·cases xs with
   | nil => rename_i h; simp at h
   | cons x xs => rfl
 have b0 := getD_byte hb 0
 have b01 := b0.1
 have b02 := b0.2
 rw [e] at hl0
 (repeat (first | refine st ?_ | refine σa ?_ | ((first | refine a82_Ms1 ?_ | refine σb ?_); simp (disch := omega) only [push_cast, ↓reduceIte, reduceCtorEq, ν1, ν2, ν3, ν4, ν5, ζ1, ζ2, ζ3, ζ4, ζ5, hs, hn, hl0, w_i64])))
 ((first | refine retA.ret (by rfl) ?_ | refine retA.normal (by rfl) ?_); simp (disch := omega) only [push_cast, ↓reduceIte, reduceCtorEq, Nat.reduceAdd, Nat.reduceMul, Nat.reduceLeDiff, Nat.reduceLT, Nat.reduceSub, Int.reduceNe, Int.reduceEq, Int.reduceLE, Int.reduceLT, Int.reduceToNat])
 exact ⟨hF, hR⟩
theorem rtwo_spec (p lo : Nat) (xs : List Int) (sh : Bool) (M : Mem) (hr : RdA M p lo xs sh) (hb : ∀ x ∈ xs, 0 ≤ x ∧ x ≤ 255) : CallA Try.prog 83 [.pointer (some ⟨p, 0, none⟩)] M fun r M' => Fr M M' [p] ∧ RdA M' p lo (xs.drop 2) (sh || decide (xs.length < 2)) ∧ r = .int .i64 (pairAt (takeL 2 xs) 0) := by
 (refine CallA.of_body Try.func83 rfl (by rfl) ?_; simp only [Try.ntmps83, List.length_cons, List.length_nil, List.replicate, List.cons_append, List.nil_append, Nat.reduceSub, Nat.reduceAdd])
 (repeat (first | refine st ?_ | refine σa ?_ | ((first | refine a83_Ms1 ?_ | refine σb ?_); simp (disch := omega) only [push_cast, ↓reduceIte, reduceCtorEq, ν1, ν2, ν3, ν4, ν5, ζ1, ζ2, ζ3, ζ4, ζ5])))
 refine (rtake_spec p lo 2 xs sh M hr (by omega)).mono ?_
 rintro r M2 ⟨hF, hR, hS, hp⟩
 (repeat (first | refine st ?_ | refine σa ?_ | ((first | refine a83_Ms1 ?_ | refine σb ?_); simp (disch := omega) only [push_cast, ↓reduceIte, reduceCtorEq, ν1, ν2, ν3, ν4, ν5, ζ1, ζ2, ζ3, ζ4, ζ5])))
 refine (pair_spec r _ M2 hS (by rw [takeL_length]; omega) (takeL_byte hb)).mono ?_
 rintro r M3 ⟨rfl, rfl⟩
 (repeat (first | refine st ?_ | refine σa ?_ | ((first | refine a83_Ms1 ?_ | refine σb ?_); simp (disch := omega) only [push_cast, ↓reduceIte, reduceCtorEq, ν1, ν2, ν3, ν4, ν5, ζ1, ζ2, ζ3, ζ4, ζ5])))
 ((first | refine retA.ret (by rfl) ?_ | refine retA.normal (by rfl) ?_); simp (disch := omega) only [push_cast, ↓reduceIte, reduceCtorEq, Nat.reduceAdd, Nat.reduceMul, Nat.reduceLeDiff, Nat.reduceLT, Nat.reduceSub, Int.reduceNe, Int.reduceEq, Int.reduceLE, Int.reduceLT, Int.reduceToNat])
 exact ⟨hF, hR⟩
theorem rfour_spec (p lo : Nat) (xs : List Int) (sh : Bool) (M : Mem) (hr : RdA M p lo xs sh) (hb : ∀ x ∈ xs, 0 ≤ x ∧ x ≤ 255) : CallA Try.prog 84 [.pointer (some ⟨p, 0, none⟩)] M fun r M' => Fr M M' [p] ∧ RdA M' p lo (xs.drop 4) (sh || decide (xs.length < 4)) ∧ r = .int .u32 (wordAt (takeL 4 xs) 0) := by
 (refine CallA.of_body Try.func84 rfl (by rfl) ?_; simp only [Try.ntmps84, List.length_cons, List.length_nil, List.replicate, List.cons_append, List.nil_append, Nat.reduceSub, Nat.reduceAdd])
 (repeat (first | refine st ?_ | refine σa ?_ | ((first | refine a84_Ms1 ?_ | refine σb ?_); simp (disch := omega) only [push_cast, ↓reduceIte, reduceCtorEq, ν1, ν2, ν3, ν4, ν5, ζ1, ζ2, ζ3, ζ4, ζ5])))
 refine (rtake_spec p lo 4 xs sh M hr (by omega)).mono ?_
 rintro r M2 ⟨hF, hR, hS, hp⟩
 (repeat (first | refine st ?_ | refine σa ?_ | ((first | refine a84_Ms1 ?_ | refine σb ?_); simp (disch := omega) only [push_cast, ↓reduceIte, reduceCtorEq, ν1, ν2, ν3, ν4, ν5, ζ1, ζ2, ζ3, ζ4, ζ5])))
 refine (quad_spec r _ M2 hS (by rw [takeL_length]; omega) (takeL_byte hb)).mono ?_
 rintro r M3 ⟨rfl, rfl⟩
 (repeat (first | refine st ?_ | refine σa ?_ | ((first | refine a84_Ms1 ?_ | refine σb ?_); simp (disch := omega) only [push_cast, ↓reduceIte, reduceCtorEq, ν1, ν2, ν3, ν4, ν5, ζ1, ζ2, ζ3, ζ4, ζ5])))
 ((first | refine retA.ret (by rfl) ?_ | refine retA.normal (by rfl) ?_); simp (disch := omega) only [push_cast, ↓reduceIte, reduceCtorEq, Nat.reduceAdd, Nat.reduceMul, Nat.reduceLeDiff, Nat.reduceLT, Nat.reduceSub, Int.reduceNe, Int.reduceEq, Int.reduceLE, Int.reduceLT, Int.reduceToNat])
 exact ⟨hF, hR⟩
theorem d127_Pu1 {g n : Prop} (k : n) (h : n → g := by first | exact AW.dr (id := 4) (by rfl) [0, 1, 2, 3, 4, 5, 6, 7, 8, 9, 10, 11] (by kernel_rfl) (by kernel_rfl) | exact AW.dr (id := 6) (by rfl) [0, 1, 2, 3, 4, 5, 6] (by kernel_rfl) (by kernel_rfl)) : g := h k
theorem a127_Pu1 {g n : Prop} (k : n) (h : n → g := by first | exact AH.ca (dst := some 28) rfl) : g := h k
theorem rise_of {l : List Int} (h : ∀ i, i + 1 < l.length → l.getD i 0 < l.getD (i + 1) 0) : l.Pairwise (· < ·) := by
 induction l with
 | nil => exact .nil
 | cons x l ih =>
  have ht := ih fun i hi => by have := h (i + 1) (by simp; omega); simpa using this
  refine List.pairwise_cons.2 ⟨fun y hy => ?_, ht⟩
  cases l with
  | nil => cases hy
  | cons z l =>
   have h0 := h 0 (by simp)
   simp at h0
   rcases List.mem_cons.1 hy with rfl | hy
   ·exact h0
   ·have := (List.pairwise_cons.1 ht).1 y hy; omega
theorem rise_at {l : List Int} (h : l.Pairwise (· < ·)) {i j : Nat} (hij : i < j) (hj : j < l.length) : l.getD i 0 < l.getD j 0 := by
 rw [getD_lt hj, getD_lt (by omega)]
 exact List.pairwise_iff_getElem.1 h i j (by omega) hj hij
theorem mask_spec (M : Mem) : CallA Try.prog 46 [.agg ⟨[.int .u32 0, .int .i64 0]⟩] M fun r M' => Fr M M' [] ∧ r = .agg ⟨[.int .u32 0, .int .i64 0]⟩ := by
 have z : (if (0 : Int) > 0 then (0 : Int) else 0) = 0 := rfl
 (refine CallA.of_body Try.func46 rfl (by rfl) ?_; simp only [Try.ntmps46, List.length_cons, List.length_nil, List.replicate, List.cons_append, List.nil_append, Nat.reduceSub, Nat.reduceAdd])
 (repeat (first | refine st ?_ | refine σa ?_ | (refine σb ?_; simp (disch := omega) only [push_cast, ↓reduceIte, reduceCtorEq, ν1, ν2, ν3, ν4, ν5, ζ1, ζ2, ζ3, ζ4, ζ5, z, Int.zero_fdiv, Int.zero_mul, w_i64, w_u64, w_u32, buildE, memE, boxE])))
 ((first | refine retA.ret (by rfl) ?_ | refine retA.normal (by rfl) ?_); simp (disch := omega) only [push_cast, ↓reduceIte, reduceCtorEq, Nat.reduceAdd, Nat.reduceMul, Nat.reduceLeDiff, Nat.reduceLT, Nat.reduceSub, Int.reduceNe, Int.reduceEq, Int.reduceLE, Int.reduceLT, Int.reduceToNat, memE, boxE])
 exact Fr.push2 _ _ _
def validP (p c : List Int) (o : Int) : Prop := c.Pairwise (· < ·) ∧ p.length ≤ 255 ∧ c.length ≤ 255 ∧ 0 ∉ p ∧ 0 ≤ o ∧ o ≤ 2
instance (p c : List Int) (o : Int) : Decidable (validP p c o) := by unfold validP; infer_instance
theorem valid_spec (p c : Value) (ps cs : List Int) (o : Int) (M : Mem) (hp : Sl M p 1 (ints .u32 ps)) (hc : Sl M c 1 (ints .u32 cs)) (h1 : ps.length ≤ 1000000000) (h2 : cs.length ≤ 1000000000) :
  CallA Try.prog 127 [.agg ⟨[.int .u32 0, .int .i64 0, p, c, .int .u32 0, .int .u32 0, .int .i64 o, .int .u32 0]⟩] M fun r M' => Fr M M' [] ∧ r = .bool (decide (validP ps cs o)) := by
 obtain ⟨M0, hM0⟩ : ∃ M0, M0 = M ++ [Blk.box [.int .u32 0, .int .i64 0, p, c, .int .u32 0, .int .u32 0, .int .i64 o, .int .u32 0]] := ⟨_, rfl⟩
 have hF : Fr M M0 [] := by rw [hM0]; exact Fr.push _ _
 have l1 : ∀ ty j, aload Try.prog ty M0 M.length j = bload Try.prog ty [.int .u32 0, .int .i64 0, p, c, .int .u32 0, .int .u32 0, .int .i64 o, .int .u32 0] j := fun ty j => by rw [hM0]; exact ld_one _ _ _ _ _
 have hp0 := hp.keep hF (by simp)
 have hc0 := hc.keep hF (by simp)
 have hsc := hc.isSl
 have hnc := hc.lnI
 have hsp := hp.isSl
 have hnp := hp.lnI
 (refine CallA.of_body Try.func127 rfl (by rfl) ?_; simp only [Try.ntmps127, List.length_cons, List.length_nil, List.replicate, List.cons_append, List.nil_append, Nat.reduceSub, Nat.reduceAdd])
 (repeat (first | refine st ?_ | refine σa ?_ | refine d127_Pu1 ?_ | ((first | refine a127_Pu1 ?_ | refine σb ?_ | refine σc ?_); simp (disch := omega) only [push_cast, ↓reduceIte, reduceCtorEq, ν1, ν2, ν3, ν4, ν5, ζ1, ζ2, ζ3, ζ4, ζ5, hsc, hnc])))
 rw [← hM0]
 refine AW.loopF [2, 3, 4, 5, 6, 7, 8, 9, 10, 11, 12, 13, 14, 15, 16, 17, 18, 19, 20, 21, 22] (fun m g M' => ∃ i : Nat, g 3 = .int .i64 i ∧ i + m = cs.length + 1 ∧ 1 ≤ i ∧ M' = M0 ∧ ∀ q, q + 1 < i → q + 1 < cs.length → cs.getD q 0 < cs.getD (q + 1) 0) cs.length ?_ ?_
 ·exact ⟨1, rfl, by omega, by omega, rfl, fun q h => by omega⟩
 rintro m g M1 ⟨i, h3, hi, hi1, rfl, he⟩
 simp (disch := omega) only [push_cast, ↓reduceIte, reduceCtorEq, Nat.reduceAdd, Nat.reduceMul, Nat.reduceLeDiff, Nat.reduceLT, Nat.reduceSub, Int.reduceNe, Int.reduceEq, Int.reduceLE, Int.reduceLT, Int.reduceToNat, h3]
 (repeat (first | refine st ?_ | refine σa ?_ | refine d127_Pu1 ?_ | ((first | refine a127_Pu1 ?_ | refine σb ?_ | refine σc ?_); simp (disch := omega) only [push_cast, ↓reduceIte, reduceCtorEq, ν1, ν2, ν3, ν4, ν5, ζ1, ζ2, ζ3, ζ4, ζ5, l1, hsc, hnc])))
 ((first | refine AL.gu rfl (fun hlt => ?_) (fun hlt => ?_) | refine AW.condS rfl rfl (fun hlt => ?_) (fun hlt => ?_)) <;> (try (have hlt' := hlt; simp only [Bool.not_eq_true', Bool.not_eq_false', Bool.not_true, Bool.not_false, decide_eq_true_eq, decide_eq_false_iff_not, Classical.not_not, Int.not_lt, Int.not_le, gt_iff_lt, ge_iff_le, beq_iff_eq] at hlt')))
 ·have e1 := hc0.ldN (P := Try.prog) (ty := 30) (i := i) (by kernel_rfl) (by omega)
  have e2 := hc0.ldN (P := Try.prog) (ty := 30) (i := i - 1) (by kernel_rfl) (by omega)
  have t1 : ((i : Int) - 1).toNat = i - 1 := by omega
  by_cases c1 : cs.getD i 0 ≤ cs.getD (i - 1) 0
  ·have d1 : decide (cs.getD i 0 ≤ cs.getD (i - 1) 0) = true := decide_eq_true c1
   (repeat (first | refine st ?_ | refine σa ?_ | refine d127_Pu1 ?_ | ((first | refine a127_Pu1 ?_ | refine σb ?_ | refine σc ?_); simp (disch := omega) only [push_cast, ↓reduceIte, reduceCtorEq, ν1, ν2, ν3, ν4, ν5, ζ1, ζ2, ζ3, ζ4, ζ5, l1, hsc, hnc, e1, e2, d1, t1, w_i64, Int.toNat_natCast])))
   ((first | refine retA.ret (by rfl) ?_ | refine retA.normal (by rfl) ?_); simp (disch := omega) only [push_cast, ↓reduceIte, reduceCtorEq, Nat.reduceAdd, Nat.reduceMul, Nat.reduceLeDiff, Nat.reduceLT, Nat.reduceSub, Int.reduceNe, Int.reduceEq, Int.reduceLE, Int.reduceLT, Int.reduceToNat])
   refine ⟨hF, ?_⟩
   have : ¬ validP ps cs o := fun h => by have := rise_at h.1 (i := i - 1) (j := i) (by omega) (by omega); omega
   simp [this]
  ·have d1 : decide (cs.getD i 0 ≤ cs.getD (i - 1) 0) = false := decide_eq_false c1
   (repeat (first | refine st ?_ | refine σa ?_ | refine d127_Pu1 ?_ | ((first | refine a127_Pu1 ?_ | refine σb ?_ | refine σc ?_); simp (disch := omega) only [push_cast, ↓reduceIte, reduceCtorEq, ν1, ν2, ν3, ν4, ν5, ζ1, ζ2, ζ3, ζ4, ζ5, l1, hsc, hnc, e1, e2, d1, t1, w_i64, Int.toNat_natCast])))
   refine ⟨rfl, m - 1, by omega, i + 1, rfl, by omega, by omega, rfl, fun q hq hq2 => ?_⟩
   by_cases e : q + 1 = i
   ·subst e
    have e2 : q + 1 - 1 = q := by omega
    rw [e2] at c1; omega
   ·exact he q (by omega) hq2
 ·have hris : cs.Pairwise (· < ·) := rise_of fun q hq => he q (by omega) hq
  (repeat (first | refine st ?_ | refine σa ?_ | refine d127_Pu1 ?_ | ((first | refine a127_Pu1 ?_ | refine σb ?_ | refine σc ?_); simp (disch := omega) only [push_cast, ↓reduceIte, reduceCtorEq, ν1, ν2, ν3, ν4, ν5, ζ1, ζ2, ζ3, ζ4, ζ5, l1, buildE])))
  refine (mask_spec _).mono ?_
  rintro r M2 ⟨hF2, rfl⟩
  refine ⟨hF2, ?_⟩
  refine ADL.hd rfl ?_
  refine AH.neS (by kernel_rfl) rfl rfl rfl ⟨true, by kernel_rfl, ?_⟩
  simp (disch := omega) only [push_cast, ↓reduceIte, reduceCtorEq, Nat.reduceAdd, Nat.reduceMul, Nat.reduceLeDiff, Nat.reduceLT, Nat.reduceSub, Int.reduceNe, Int.reduceEq, Int.reduceLE, Int.reduceLT, Int.reduceToNat]
  have l2 : ∀ ty j, aload Try.prog ty M2 M.length j = bload Try.prog ty [.int .u32 0, .int .i64 0, p, c, .int .u32 0, .int .u32 0, .int .i64 o, .int .u32 0] j := fun ty j => by
   have a : At M1 M.length (.box [.int .u32 0, .int .i64 0, p, c, .int .u32 0, .int .u32 0, .int .i64 o, .int .u32 0]) := by rw [hM0]; exact At.push _ _
   exact (a.keep hF2 (by simp)).ld
  have hFF := hF.tr hF2
  by_cases c2 : ps.length > 255
  ·have d2 : decide ((ps.length : Int) > 255) = true := decide_eq_true (by omega)
   (repeat (first | refine st ?_ | refine σa ?_ | refine d127_Pu1 ?_ | ((first | refine a127_Pu1 ?_ | refine σb ?_ | refine σc ?_); simp (disch := omega) only [push_cast, ↓reduceIte, reduceCtorEq, ν1, ν2, ν3, ν4, ν5, ζ1, ζ2, ζ3, ζ4, ζ5, l2, hsp, hnp, d2, Bool.not_true])))
   ((first | refine retA.ret (by rfl) ?_ | refine retA.normal (by rfl) ?_); simp (disch := omega) only [push_cast, ↓reduceIte, reduceCtorEq, Nat.reduceAdd, Nat.reduceMul, Nat.reduceLeDiff, Nat.reduceLT, Nat.reduceSub, Int.reduceNe, Int.reduceEq, Int.reduceLE, Int.reduceLT, Int.reduceToNat])
   have : ¬ validP ps cs o := fun h => by have := h.2.1; omega
   exact ⟨hFF, by simp [this]⟩
  have d2 : decide ((ps.length : Int) > 255) = false := decide_eq_false (by omega)
  by_cases c3 : cs.length > 255
  ·have d3 : decide ((cs.length : Int) > 255) = true := decide_eq_true (by omega)
   (repeat (first | refine st ?_ | refine σa ?_ | refine d127_Pu1 ?_ | ((first | refine a127_Pu1 ?_ | refine σb ?_ | refine σc ?_); simp (disch := omega) only [push_cast, ↓reduceIte, reduceCtorEq, ν1, ν2, ν3, ν4, ν5, ζ1, ζ2, ζ3, ζ4, ζ5, l2, hsp, hnp, hsc, hnc, d2, d3, Bool.not_true])))
   ((first | refine retA.ret (by rfl) ?_ | refine retA.normal (by rfl) ?_); simp (disch := omega) only [push_cast, ↓reduceIte, reduceCtorEq, Nat.reduceAdd, Nat.reduceMul, Nat.reduceLeDiff, Nat.reduceLT, Nat.reduceSub, Int.reduceNe, Int.reduceEq, Int.reduceLE, Int.reduceLT, Int.reduceToNat])
   have : ¬ validP ps cs o := fun h => by have := h.2.2.1; omega
   exact ⟨hFF, by simp [this]⟩
  have d3 : decide ((cs.length : Int) > 255) = false := decide_eq_false (by omega)
  (repeat (first | refine st ?_ | refine σa ?_ | refine d127_Pu1 ?_ | ((first | refine a127_Pu1 ?_ | refine σb ?_ | refine σc ?_); simp (disch := omega) only [push_cast, ↓reduceIte, reduceCtorEq, ν1, ν2, ν3, ν4, ν5, ζ1, ζ2, ζ3, ζ4, ζ5, l2, hsp, hnp, hsc, hnc, d2, d3, Bool.not_true])))
  refine (has_spec p ps 0 M2 (hp.keep hFF (by simp)) h1).mono ?_
  rintro r M3 ⟨rfl, rfl⟩
  by_cases c4 : (0 : Int) ∈ ps
  ·have d4 : decide ((0 : Int) ∈ ps) = true := decide_eq_true c4
   (repeat (first | refine st ?_ | refine σa ?_ | refine d127_Pu1 ?_ | ((first | refine a127_Pu1 ?_ | refine σb ?_ | refine σc ?_); simp (disch := omega) only [push_cast, ↓reduceIte, reduceCtorEq, ν1, ν2, ν3, ν4, ν5, ζ1, ζ2, ζ3, ζ4, ζ5, d4])))
   ((first | refine retA.ret (by rfl) ?_ | refine retA.normal (by rfl) ?_); simp (disch := omega) only [push_cast, ↓reduceIte, reduceCtorEq, Nat.reduceAdd, Nat.reduceMul, Nat.reduceLeDiff, Nat.reduceLT, Nat.reduceSub, Int.reduceNe, Int.reduceEq, Int.reduceLE, Int.reduceLT, Int.reduceToNat])
   have : ¬ validP ps cs o := fun h => h.2.2.2.1 c4
   exact ⟨hFF, by simp [this]⟩
  have d4 : decide ((0 : Int) ∈ ps) = false := decide_eq_false c4
  by_cases c5 : 0 ≤ o
  ·have d5 : decide (o ≥ 0) = true := decide_eq_true c5
   (repeat (first | refine st ?_ | refine σa ?_ | refine d127_Pu1 ?_ | ((first | refine a127_Pu1 ?_ | refine σb ?_ | refine σc ?_); simp (disch := omega) only [push_cast, ↓reduceIte, reduceCtorEq, ν1, ν2, ν3, ν4, ν5, ζ1, ζ2, ζ3, ζ4, ζ5, d4, d5, l2])))
   ((first | refine retA.ret (by rfl) ?_ | refine retA.normal (by rfl) ?_); simp (disch := omega) only [push_cast, ↓reduceIte, reduceCtorEq, Nat.reduceAdd, Nat.reduceMul, Nat.reduceLeDiff, Nat.reduceLT, Nat.reduceSub, Int.reduceNe, Int.reduceEq, Int.reduceLE, Int.reduceLT, Int.reduceToNat])
   refine ⟨hFF, ?_⟩
   have : validP ps cs o ↔ o ≤ 2 := ⟨fun h => h.2.2.2.2.2, fun h => ⟨hris, by omega, by omega, c4, c5, h⟩⟩
   simp [this]
  ·have d5 : decide (o ≥ 0) = false := decide_eq_false c5
   (repeat (first | refine st ?_ | refine σa ?_ | refine d127_Pu1 ?_ | ((first | refine a127_Pu1 ?_ | refine σb ?_ | refine σc ?_); simp (disch := omega) only [push_cast, ↓reduceIte, reduceCtorEq, ν1, ν2, ν3, ν4, ν5, ζ1, ζ2, ζ3, ζ4, ζ5, d4, d5, l2])))
   ((first | refine retA.ret (by rfl) ?_ | refine retA.normal (by rfl) ?_); simp (disch := omega) only [push_cast, ↓reduceIte, reduceCtorEq, Nat.reduceAdd, Nat.reduceMul, Nat.reduceLeDiff, Nat.reduceLT, Nat.reduceSub, Int.reduceNe, Int.reduceEq, Int.reduceLE, Int.reduceLT, Int.reduceToNat])
   refine ⟨hFF, ?_⟩
   have : ¬ validP ps cs o := fun h => c5 h.2.2.2.2.1
   simp [this]
end Go.Proofs.Ytbdejnnbpdgjlaa.Ax
namespace Go.Proofs.Ytbdejnnbpdgjlaa.Ax
open Go Go.RowKit
set_option linter.unusedVariables false
set_option linter.unusedSimpArgs false
set_option maxRecDepth 100000
set_option maxHeartbeats 20000000
theorem Own.openI {M : Mem} {v : Value} {k : IntKind} {xs : List Int} (h : Own M v 1 (ints k xs)) (hne : xs ≠ []) : ∃ b off c pre, v = .slice (some ⟨b, off, none⟩) xs.length c ∧ M[b]? = some (.row true 1 (pre ++ ints k xs)) ∧ pre.length = off ∧ c ≠ 0 ∧ xs.length ≤ capLb c := by
 have hp := List.length_pos_iff.2 hne
 have hl := h.sl.len
 rw [ints_length] at hl
 rcases h.own with rfl | ⟨a, rfl⟩ | ⟨b, off, n, c, cc, rfl, hc, hb, hend⟩
 ·simp [sln] at hl; omega
 ·simp [sln] at hl; omega
 ·have hn : n = xs.length := by simpa [sln] using hl
  subst hn
  have hg := h.get hb hend
  rw [ints_length] at hend
  refine ⟨b, off, c, cc.take off, rfl, ?_, by rw [List.length_take]; omega, hc, ?_⟩
  ·rw [← hg, List.take_append_drop]; exact hb
  ·rcases h.sl.base with he | ⟨b', off', n', c', he, _, hcap⟩
   ·cases he
   ·cases he; exact hcap
theorem splI {k : IntKind} {pre : List Value} {xs : List Int} {off i : Nat} (hp : pre.length = off) (hi : i < xs.length) (y : Int) : spl (pre ++ ints k xs) (off + i) [.int k y] = pre ++ ints k (xs.set i y) := by
 unfold spl
 subst hp
 have e1 : (pre ++ ints k xs).take (pre.length + i) = pre ++ (ints k xs).take i := by rw [List.take_append, List.take_of_length_le (by omega)]; congr 2; omega
 have e2 : (pre ++ ints k xs).drop (pre.length + i + 1) = (ints k xs).drop (i + 1) := by rw [List.drop_append, List.drop_of_length_le (by omega), List.nil_append]; congr 1; omega
 rw [show [Value.int k y].length = 1 from rfl, e1, e2, List.append_assoc, List.append_assoc]
 congr 1
 unfold ints
 rw [List.map_set, List.set_eq_take_append_cons_drop, if_pos (by simpa using hi)]
 rfl
theorem ownI {M : Mem} {k : IntKind} {xs : List Int} {b off c : Nat} {pre : List Value} (hb : M[b]? = some (.row true 1 (pre ++ ints k xs))) (hp : pre.length = off) (hc : c ≠ 0) (hcap : xs.length ≤ capLb c) : Own M (.slice (some ⟨b, off, none⟩) xs.length c) 1 (ints k xs) := by
 have hl : xs.length * 1 = (ints k xs).length := by rw [ints_length]; omega
 refine ⟨⟨.inr ⟨b, off, _, c, rfl, (List.getElem?_eq_some_iff.1 hb).1, hcap⟩, hl, ⟨by omega, fun a n c' B hv _ hB => ?_⟩, ints_one _ _, fun _ => ?_⟩, .inr (.inr ⟨b, off, _, c, _, rfl, hc, hb, by rw [List.length_append, hp]⟩)⟩
 ·cases hv
  rw [hb] at hB
  cases hB; rfl
 ·show cellsM M b off _ = _
  unfold cellsM
  rw [hb, Option.bind_some]
  rw [if_pos (show off + (ints k xs).length ≤ (Blk.row true 1 (pre ++ ints k xs)).cells.length by show _ ≤ (pre ++ ints k xs).length; rw [List.length_append]; omega)]
  show some (((pre ++ ints k xs).drop off).take (ints k xs).length) = _
  rw [← hp, List.drop_left, List.take_length]
theorem roomI {k : IntKind} {pre : List Value} {xs : List Int} {off i : Nat} (hp : pre.length = off) (hi : i < xs.length) : off + i + 1 ≤ (pre ++ ints k xs).length := by rw [List.length_append, ints_length]; omega
theorem or16 {x : Int} (hx : x = 64 ∨ x = 128 ∨ x = 192 ∨ x = 0) : bits .u8 (BitVec.ofInt IntKind.u8.bits x ||| BitVec.ofInt IntKind.u8.bits 16) = .int .u8 (x + 16) := by
 rcases hx with rfl | rfl | rfl | rfl <;> kernel_rfl
end Go.Proofs.Ytbdejnnbpdgjlaa.Ax
