/- Contracts of functions over the abstract machine. No conditions: lemmas alone. -/
import Derived.Test.YtbdejnnbpdgjlaaPeerXLibD
import Derived.Test.YtbdejnnbpdgjlaaPeerXP0
namespace Go.Proofs.Ytbdejnnbpdgjlaa.Ax
open Go Go.RowKit
open Nat renaming reduceAdd → ν1, reduceMul → ν2, reduceLeDiff → ν3, reduceLT → ν4, reduceSub → ν5
open Int renaming reduceNe → ζ1, reduceEq → ζ2, reduceLE → ζ3, reduceLT → ζ4, reduceToNat → ζ5
set_option linter.unusedVariables false
set_option linter.unusedSimpArgs false
set_option maxRecDepth 100000
set_option maxHeartbeats 20000000
attribute [local irreducible] thenA blockA scopeA retA AL AW AD ADL AH clrK CallA apure aload bload appK ptrK fnK ares szOk planOk okOps
@[push_cast] theorem SlLit : (∀ a n c, isSl (.slice a n c) = true) ∧ (∀ a n c, sln (.slice a n c) = n) ∧ (∀ a n c, scp (.slice a n c) = c) ∧ (∀ b o s n c, sbk (.slice (some ⟨b, o, s⟩) n c) = b) ∧ (∀ b o s n c, sof (.slice (some ⟨b, o, s⟩) n c) = o) :=
 ⟨fun _ _ _ => rfl, fun _ _ _ => rfl, fun _ _ _ => rfl, fun _ _ _ _ _ => rfl, fun _ _ _ _ _ => rfl⟩
theorem isNaN_spec (n : Int) (M : Mem) : CallA Try.prog 138 [.int .u32 n] M fun v M' => v = .bool false ∧ M' = M := by
 (refine CallA.of_body Try.func138 rfl (by rfl) ?_; simp only [Try.ntmps138, List.length_cons, List.length_nil, List.replicate, List.cons_append, List.nil_append, Nat.reduceSub, Nat.reduceAdd])
 (repeat (first | refine st ?_ | refine σa ?_ | (refine σb ?_; simp (disch := omega) only [push_cast, ↓reduceIte, reduceCtorEq, ν1, ν2, ν3, ν4, ν5, ζ1, ζ2, ζ3, ζ4, ζ5])))
 ((first | refine retA.ret (by rfl) ?_ | refine retA.normal (by rfl) ?_); simp (disch := omega) only [push_cast, ↓reduceIte, reduceCtorEq, Nat.reduceAdd, Nat.reduceMul, Nat.reduceLeDiff, Nat.reduceLT, Nat.reduceSub, Int.reduceNe, Int.reduceEq, Int.reduceLE, Int.reduceLT, Int.reduceToNat])
 simp
theorem less_spec (a b : Int) (M : Mem) : CallA Try.prog 114 [.int .u32 a, .int .u32 b] M fun v M' => v = .bool (decide (a < b)) ∧ M' = M := by
 (refine CallA.of_body Try.func114 rfl (by rfl) ?_; simp only [Try.ntmps114, List.length_cons, List.length_nil, List.replicate, List.cons_append, List.nil_append, Nat.reduceSub, Nat.reduceAdd])
 (repeat (first | refine st ?_ | refine σa ?_ | (refine σb ?_; simp (disch := omega) only [push_cast, ↓reduceIte, reduceCtorEq, ν1, ν2, ν3, ν4, ν5, ζ1, ζ2, ζ3, ζ4, ζ5])))
 refine (isNaN_spec _ _).mono ?_
 rintro r M1 ⟨rfl, rfl⟩
 (repeat (first | refine st ?_ | refine σa ?_ | (refine σb ?_; simp (disch := omega) only [push_cast, ↓reduceIte, reduceCtorEq, ν1, ν2, ν3, ν4, ν5, ζ1, ζ2, ζ3, ζ4, ζ5])))
 ((first | refine retA.ret (by rfl) ?_ | refine retA.normal (by rfl) ?_); simp (disch := omega) only [push_cast, ↓reduceIte, reduceCtorEq, Nat.reduceAdd, Nat.reduceMul, Nat.reduceLeDiff, Nat.reduceLT, Nat.reduceSub, Int.reduceNe, Int.reduceEq, Int.reduceLE, Int.reduceLT, Int.reduceToNat])
structure Rw (M : Mem) (b off n c : Nat) (pre post : List Value) (xs : List Int) : Prop where
 get : M[b]? = some (.row true 1 (pre ++ ints .u32 xs ++ post))
 len : xs.length = n
 off : pre.length = off
 cap : n ≤ capLb c
 pos : c ≠ 0
theorem spl_mid (pre post : List Value) (xs : List Int) (i : Nat) (y : Int) (h : i < xs.length) : spl (pre ++ ints .u32 xs ++ post) (pre.length + i) [.int .u32 y] = pre ++ ints .u32 (xs.set i y) ++ post := by
 rw [spl_one _ _ _ (by simp [ints]; omega), List.append_assoc, List.append_assoc, List.set_append_right _ _ (by omega), Nat.add_sub_cancel_left, List.set_append_left _ _ (by simpa [ints] using h)]
 simp [ints, List.map_set]
section
variable {M : Mem} {b off n c : Nat} {pre post : List Value} {xs : List Int}
theorem Rw.lt (h : Rw M b off n c pre post xs) : b < M.length := (List.getElem?_eq_some_iff.1 h.get).1
theorem Rw.at (h : Rw M b off n c pre post xs) : At M b (.row true 1 (pre ++ ints .u32 xs ++ post)) := ⟨h.get⟩
theorem Rw.ld (h : Rw M b off n c pre post xs) {i : Nat} (hi : i < n) : aload Try.prog 30 M b (off + i) = some (.int .u32 (xs.getD i 0)) := by
 rw [← h.len] at hi
 rw [h.at.ld]
 have hu : Try.prog.underlying 30 = some (.int .u32) := by kernel_rfl
 unfold bload
 rw [hu]
 simp only [Blk.cells]
 rw [← h.off, List.append_assoc, List.getElem?_append_right (by omega), Nat.add_sub_cancel_left, List.getElem?_append_left (by simpa [ints] using hi)]
 simp [ints, List.getElem?_map, List.getElem?_eq_getElem hi]
theorem Rw.spl (h : Rw M b off n c pre post xs) {i : Nat} (hi : i < n) (y : Int) : spl (pre ++ ints .u32 xs ++ post) (off + i) [.int .u32 y] = pre ++ ints .u32 (xs.set i y) ++ post := by
 rw [← h.off]; exact spl_mid pre post xs i y (by rw [h.len]; exact hi)
theorem Rw.room (h : Rw M b off n c pre post xs) {i : Nat} (hi : i < n) : off + i + 1 ≤ (pre ++ ints .u32 xs ++ post).length := by
 have := h.off
 have := h.len
 simp [ints]
 omega
theorem Rw.put (h : Rw M b off n c pre post xs) {ys : List Int} (hl : ys.length = xs.length) : Rw (M.set b (.row true 1 (pre ++ ints .u32 ys ++ post))) b off n c pre post ys :=
 ⟨List.getElem?_set_self h.lt, hl.trans h.len, h.off, h.cap, h.pos⟩
end
def swap (xs : List Int) (i j : Nat) : List Int := (xs.set i (xs.getD j 0)).set j (xs.getD i 0)
theorem swap_length (xs : List Int) (i j : Nat) : (swap xs i j).length = xs.length := by simp [swap]
theorem swap_perm {xs : List Int} {i j : Nat} (hi : i < xs.length) (hj : j < xs.length) : (swap xs i j).Perm xs := by
 have := List.set_set_perm hi hj
 unfold swap
 rw [List.getD_eq_getElem?_getD, List.getD_eq_getElem?_getD, List.getElem?_eq_getElem hi, List.getElem?_eq_getElem hj]
 exact this
theorem swap_get {xs : List Int} {i j k : Nat} (hi : i < xs.length) (hj : j < xs.length) (hk : k < xs.length) : (swap xs i j).getD k 0 = if k = j then xs.getD i 0 else if k = i then xs.getD j 0 else xs.getD k 0 := by
 unfold swap
 simp only [List.getD_eq_getElem?_getD, List.getElem?_set, List.length_set]
 by_cases h1 : k = j
 ·subst h1; simp [hj]
 ·rw [if_neg (fun e => h1 e.symm), if_neg h1]
  by_cases h2 : k = i
  ·subst h2; simp [hi]
  ·rw [if_neg (fun e => h2 e.symm), if_neg h2]
structure PermOn (lo hi : Nat) (xs ys : List Int) : Prop where
 perm : ys.Perm xs
 out : ∀ i, i < lo ∨ hi ≤ i → ys.getD i 0 = xs.getD i 0
theorem PermOn.refl (lo hi : Nat) (xs : List Int) : PermOn lo hi xs xs := ⟨.refl _, fun _ _ => rfl⟩
theorem PermOn.trans {lo hi : Nat} {xs ys zs : List Int} (h : PermOn lo hi xs ys) (k : PermOn lo hi ys zs) : PermOn lo hi xs zs := ⟨k.perm.trans h.perm, fun i hi => (k.out i hi).trans (h.out i hi)⟩
theorem PermOn.len {lo hi : Nat} {xs ys : List Int} (h : PermOn lo hi xs ys) : ys.length = xs.length := h.perm.length_eq
theorem PermOn.mono {lo hi lo' hi' : Nat} {xs ys : List Int} (h : PermOn lo hi xs ys) (h1 : lo' ≤ lo) (h2 : hi ≤ hi') : PermOn lo' hi' xs ys := ⟨h.perm, fun i hi => h.out i (by omega)⟩
theorem PermOn.swap {lo hi i j : Nat} {xs : List Int} (h1 : lo ≤ i) (h2 : i < hi) (h3 : lo ≤ j) (h4 : j < hi) (h5 : hi ≤ xs.length) : PermOn lo hi xs (Ax.swap xs i j) := by
 refine ⟨swap_perm (by omega) (by omega), fun k hk => ?_⟩
 rcases Nat.lt_or_ge k xs.length with hl | hl
 ·rw [swap_get (by omega) (by omega) hl, if_neg (by omega), if_neg (by omega)]
 ·have e1 : xs.getD k 0 = 0 := by rw [List.getD_eq_getElem?_getD, List.getElem?_eq_none_iff.2 hl]; rfl
  have e2 : (Ax.swap xs i j).getD k 0 = 0 := by rw [List.getD_eq_getElem?_getD, List.getElem?_eq_none_iff.2 (by rw [swap_length]; exact hl)]; rfl
  rw [e1, e2]
def SortOn (lo hi : Nat) (xs : List Int) : Prop := ∀ i j, lo ≤ i → i < j → j < hi → xs.getD i 0 ≤ xs.getD j 0
theorem Rw.same {M : Mem} {b off n c : Nat} {pre post : List Value} {xs : List Int} (h : Rw M b off n c pre post xs) : M.set b (.row true 1 (pre ++ ints .u32 xs ++ post)) = M := by
 apply List.ext_getElem?
 intro i
 by_cases e : b = i
 ·subst e; rw [List.getElem?_set_self h.lt, h.get]
 ·rw [List.getElem?_set_ne e]
structure InsAt (a i j : Nat) (zs : List Int) : Prop where
 rise : ∀ p q, a ≤ p → p < q → q ≤ i → p ≠ j → q ≠ j → zs.getD p 0 ≤ zs.getD q 0
 low : ∀ q, j < q → q ≤ i → zs.getD j 0 ≤ zs.getD q 0
theorem SortOn.start {a i : Nat} {zs : List Int} (h : SortOn a i zs) (j : Nat) (hj : j = i := by rfl) : InsAt a i j zs := by
 subst hj
 exact ⟨fun p q h1 h2 h3 h4 h5 => h p q h1 h2 (by omega), fun q h1 h2 => by omega⟩
theorem InsAt.done {a i j : Nat} {zs : List Int} (h : InsAt a i j zs) (hj : j ≤ i) (hd : a < j → zs.getD (j - 1) 0 ≤ zs.getD j 0) : SortOn a (i + 1) zs := by
 intro p q h1 h2 h3
 by_cases hp : p = j
 ·subst hp; exact h.low q h2 (by omega)
 ·by_cases hq : q = j
  ·subst hq
   have h4 := hd (by omega)
   by_cases hp1 : p = q - 1
   ·rw [hp1]; exact h4
   ·exact Int.le_trans (h.rise p (q - 1) h1 (by omega) (by omega) hp (by omega)) h4
  ·exact h.rise p q h1 h2 (by omega) hp hq
theorem InsAt.step {a i j : Nat} {zs : List Int} (h : InsAt a i j zs) (ha : a < j) (hj : j ≤ i) (hi : i < zs.length) (hlt : zs.getD j 0 < zs.getD (j - 1) 0) : InsAt a i (j - 1) (swap zs j (j - 1)) := by
 have hg : ∀ k, k < zs.length → (swap zs j (j - 1)).getD k 0 = if k = j - 1 then zs.getD j 0 else if k = j then zs.getD (j - 1) 0 else zs.getD k 0 := fun k hk => swap_get (by omega) (by omega) hk
 refine ⟨fun p q h1 h2 h3 h4 h5 => ?_, fun q h1 h2 => ?_⟩
 ·rw [hg p (by omega), hg q (by omega), if_neg h4, if_neg h5]
  by_cases hp : p = j
  ·rw [if_pos hp, if_neg (by omega)]; exact h.rise (j - 1) q (by omega) (by omega) h3 (by omega) (by omega)
  ·rw [if_neg hp]
   by_cases hq : q = j
   ·rw [if_pos hq]; exact h.rise p (j - 1) h1 (by omega) (by omega) hp (by omega)
   ·rw [if_neg hq]; exact h.rise p q h1 h2 h3 hp hq
 ·rw [hg (j - 1) (by omega), hg q (by omega), if_pos rfl, if_neg (by omega)]
  by_cases hq : q = j
  ·rw [if_pos hq]; omega
  ·rw [if_neg hq]; exact h.low q (by omega) h2
theorem ins_spec {M : Mem} {b off n c : Nat} {pre post : List Value} {xs : List Int} (h : Rw M b off n c pre post xs) (a e : Nat) (ha : a ≤ e) (he : e ≤ xs.length) (hn : xs.length ≤ 1000000000) :
  CallA Try.prog 108 [.slice (some ⟨b, off, none⟩) n c, .int .i64 a, .int .i64 e] M fun v M' => ∃ ys, M' = M.set b (.row true 1 (pre ++ ints .u32 ys ++ post)) ∧ PermOn a e xs ys ∧ SortOn a e ys := by
 have hlen := h.len
 (refine CallA.of_body Try.func108 rfl (by rfl) ?_; simp only [Try.ntmps108, List.length_cons, List.length_nil, List.replicate, List.cons_append, List.nil_append, Nat.reduceSub, Nat.reduceAdd])
 (repeat (first | refine st ?_ | refine σa ?_ | (refine σb ?_; simp (disch := omega) only [push_cast, ↓reduceIte, reduceCtorEq, ν1, ν2, ν3, ν4, ν5, ζ1, ζ2, ζ3, ζ4, ζ5, w_i64])))
 refine AW.loopF [6, 7, 10, 11, 12, 13, 14, 15, 16, 17, 18, 19, 20, 21, 22, 23, 24, 25, 26, 27, 28, 29, 30, 31, 32, 33, 34, 35, 36, 37, 38, 39, 40, 41, 42, 43, 44, 45, 46, 47, 48] (fun m f M' => ∃ (i : Nat) (ys : List Int), f 6 = .int .i64 i ∧ a + 1 ≤ i ∧ (i ≤ e ∨ i = a + 1) ∧ i + m = e + 1 ∧ M' = M.set b (.row true 1 (pre ++ ints .u32 ys ++ post)) ∧ PermOn a e xs ys ∧ SortOn a i ys) (e - a) ?_ ?_
 ·exact ⟨a + 1, xs, by simp, by omega, by omega, by omega, h.same.symm, PermOn.refl _ _ _, fun i j _ _ _ => by omega⟩
 rintro m f M1 ⟨i, ys, h6, hi1, hi2, hm, rfl, hP, hS⟩
 simp (disch := omega) only [push_cast, ↓reduceIte, reduceCtorEq, Nat.reduceAdd, Nat.reduceMul, Nat.reduceLeDiff, Nat.reduceLT, Nat.reduceSub, Int.reduceNe, Int.reduceEq, Int.reduceLE, Int.reduceLT, Int.reduceToNat, h6]
 (repeat (first | refine st ?_ | refine σa ?_ | (refine σb ?_; simp (disch := omega) only [push_cast, ↓reduceIte, reduceCtorEq, ν1, ν2, ν3, ν4, ν5, ζ1, ζ2, ζ3, ζ4, ζ5, w_i64])))
 ((first | refine AL.gu rfl (fun hlt => ?_) (fun hlt => ?_) | refine AW.condS rfl rfl (fun hlt => ?_) (fun hlt => ?_)) <;> (try (have hlt' := hlt; simp only [Bool.not_eq_true', Bool.not_eq_false', Bool.not_true, Bool.not_false, decide_eq_true_eq, decide_eq_false_iff_not, Classical.not_not, Int.not_lt, Int.not_le, gt_iff_lt, ge_iff_le, beq_iff_eq] at hlt')))
 ·(repeat (first | refine st ?_ | refine σa ?_ | (refine σb ?_; simp (disch := omega) only [push_cast, ↓reduceIte, reduceCtorEq, ν1, ν2, ν3, ν4, ν5, ζ1, ζ2, ζ3, ζ4, ζ5, w_i64])))
  have hyl := hP.len
  refine AW.loopF [7, 16, 17, 18, 19, 20, 21, 22, 23, 24, 25, 26, 27, 28, 29, 30, 31, 32, 33, 34, 35, 36, 37, 38, 39, 40, 41, 42, 43, 44, 45, 46, 47, 48] (fun k g M' => ∃ (j : Nat) (zs : List Int), g 7 = .int .i64 j ∧ a ≤ j ∧ j ≤ i ∧ j = k + a ∧ M' = M.set b (.row true 1 (pre ++ ints .u32 zs ++ post)) ∧ PermOn a e xs zs ∧ InsAt a i j zs) (i - a) ?_ ?_
  ·exact ⟨i, ys, rfl, by omega, by omega, by omega, rfl, hP, hS.start i⟩
  rintro k g M2 ⟨j, zs, h7, hj1, hj2, hk, rfl, hQ, hI⟩
  have hzl := hQ.len
  have hR := h.put (ys := zs) (by omega)
  simp (disch := omega) only [push_cast, ↓reduceIte, reduceCtorEq, Nat.reduceAdd, Nat.reduceMul, Nat.reduceLeDiff, Nat.reduceLT, Nat.reduceSub, Int.reduceNe, Int.reduceEq, Int.reduceLE, Int.reduceLT, Int.reduceToNat, h7]
  (repeat (first | refine st ?_ | refine σa ?_ | (refine σb ?_; simp (disch := omega) only [push_cast, ↓reduceIte, reduceCtorEq, ν1, ν2, ν3, ν4, ν5, ζ1, ζ2, ζ3, ζ4, ζ5, w_i64])))
  by_cases hja : a < j
  ·have hja' : decide ((j : Int) > (a : Int)) = true := decide_eq_true (by omega)
   have hl1 := hR.ld (i := j) (by omega)
   have hl2 := hR.ld (i := j - 1) (by omega)
   have hj' : ((j : Int) - 1).toNat = j - 1 := by omega
   refine AW.dr (by rfl) [0, 1, 2, 3, 4, 5, 6, 7, 8, 9, 10, 11, 12, 13, 14] (by kernel_rfl) (by kernel_rfl) ?_
   (repeat (first | refine st ?_ | refine σa ?_ | ((first | refine σd ?_ | refine σc ?_); simp (disch := omega) only [push_cast, ↓reduceIte, reduceCtorEq, ν1, ν2, ν3, ν4, ν5, ζ1, ζ2, ζ3, ζ4, ζ5, hja', hj', hl1, hl2, hlen, w_i64, Int.toNat_natCast])))
   refine (less_spec _ _ _).mono ?_
   rintro r M3 ⟨rfl, rfl⟩
   refine ⟨Fr.refl _, ?_⟩
   (repeat (first | refine st ?_ | refine σa ?_ | ((first | refine σd ?_ | refine σc ?_); simp (disch := omega) only [push_cast, ↓reduceIte, reduceCtorEq, ν1, ν2, ν3, ν4, ν5, ζ1, ζ2, ζ3, ζ4, ζ5, hja'])))
   (repeat (first | refine st ?_ | refine σa ?_ | (refine σb ?_; simp (disch := omega) only [push_cast, ↓reduceIte, reduceCtorEq, ν1, ν2, ν3, ν4, ν5, ζ1, ζ2, ζ3, ζ4, ζ5])))
   ((first | refine AL.gu rfl (fun hc => ?_) (fun hc => ?_) | refine AW.condS rfl rfl (fun hc => ?_) (fun hc => ?_)) <;> (try (have hc' := hc; simp only [Bool.not_eq_true', Bool.not_eq_false', Bool.not_true, Bool.not_false, decide_eq_true_eq, decide_eq_false_iff_not, Classical.not_not, Int.not_lt, Int.not_le, gt_iff_lt, ge_iff_le, beq_iff_eq] at hc')))
   ·(repeat (first | refine st ?_ | refine σa ?_ | (refine σb ?_; simp (disch := omega) only [push_cast, ↓reduceIte, reduceCtorEq, ν1, ν2, ν3, ν4, ν5, ζ1, ζ2, ζ3, ζ4, ζ5])))
    have hR1 := h.put (ys := zs.set j (zs.getD (j - 1) 0)) (by simp; omega)
    refine AW.dr (by rfl) [0, 1, 2, 3, 4, 5, 6, 7, 8, 9, 10, 11, 12, 13, 14, 15, 16, 17] (by kernel_rfl) (by kernel_rfl) ?_
    (repeat (first | refine st ?_ | refine σa ?_ | ((first | refine σd ?_ | refine σc ?_); simp (disch := omega) only [push_cast, ↓reduceIte, reduceCtorEq, ν1, ν2, ν3, ν4, ν5, ζ1, ζ2, ζ3, ζ4, ζ5, hj', hl1, hl2, hlen, w_i64, Int.toNat_natCast, hR.get, hR1.get, hR.room, hR1.room, hR.spl, hR1.spl, Option.some.injEq, exists_eq_left', List.set_set, List.length_set, Blk.put, Blk.ours, Blk.cells])))
    (repeat (first | refine st ?_ | refine σa ?_ | (refine σb ?_; simp (disch := omega) only [push_cast, ↓reduceIte, reduceCtorEq, ν1, ν2, ν3, ν4, ν5, ζ1, ζ2, ζ3, ζ4, ζ5, w_i64])))
    have ej : Value.int .i64 ((j : Int) - 1) = .int .i64 ((j - 1 : Nat) : Int) := congrArg (Value.int .i64) (by omega)
    refine ⟨rfl, k - 1, by omega, j - 1, ej, by omega, by omega, by omega, _, rfl, ?_, ?_⟩
    ·exact hQ.trans (PermOn.swap (by omega) (by omega) (by omega) (by omega) (by omega))
    ·exact hI.step hja hj2 (by omega) (by simpa using hc')
   ·(repeat (first | refine st ?_ | refine σa ?_ | (refine σb ?_; simp (disch := omega) only [push_cast, ↓reduceIte, reduceCtorEq, ν1, ν2, ν3, ν4, ν5, ζ1, ζ2, ζ3, ζ4, ζ5, w_i64])))
    refine ⟨rfl, m - 1, by omega, i + 1, rfl, by omega, by omega, by omega, zs, rfl, hQ, hI.done hj2 (fun _ => by simpa using hc')⟩
  ·have hja' : decide ((j : Int) > (a : Int)) = false := decide_eq_false (by omega)
   obtain rfl : j = a := by omega
   refine AW.dr (by rfl) [0, 1, 2, 3, 4, 5, 6, 7, 8, 9, 10, 11, 12, 13, 14] (by kernel_rfl) (by kernel_rfl) ?_
   (repeat (first | refine st ?_ | refine σa ?_ | ((first | refine σd ?_ | refine σc ?_); simp (disch := omega) only [push_cast, ↓reduceIte, reduceCtorEq, ν1, ν2, ν3, ν4, ν5, ζ1, ζ2, ζ3, ζ4, ζ5, hja', hlen, w_i64, Int.toNat_natCast])))
   (repeat (first | refine st ?_ | refine σa ?_ | (refine σb ?_; simp (disch := omega) only [push_cast, ↓reduceIte, reduceCtorEq, ν1, ν2, ν3, ν4, ν5, ζ1, ζ2, ζ3, ζ4, ζ5, w_i64])))
   refine ⟨rfl, m - 1, by omega, i + 1, rfl, by omega, by omega, by omega, zs, rfl, hQ, hI.done hj2 (fun h => by omega)⟩
 ·(repeat (first | refine st ?_ | refine σa ?_ | (refine σb ?_; simp (disch := omega) only [push_cast, ↓reduceIte, reduceCtorEq, ν1, ν2, ν3, ν4, ν5, ζ1, ζ2, ζ3, ζ4, ζ5])))
  ((first | refine retA.ret (by rfl) ?_ | refine retA.normal (by rfl) ?_); simp (disch := omega) only [push_cast, ↓reduceIte, reduceCtorEq, Nat.reduceAdd, Nat.reduceMul, Nat.reduceLeDiff, Nat.reduceLT, Nat.reduceSub, Int.reduceNe, Int.reduceEq, Int.reduceLE, Int.reduceLT, Int.reduceToNat])
  exact ⟨ys, rfl, hP, fun p q h1 h2 h3 => hS p q h1 h2 (by omega)⟩
theorem box_ld {M : Mem} {s : Nat} {k : Int} (h : At M s (.box [.int .i64 k])) : aload Try.prog 3 M s 0 = some (.int .i64 k) := by
 rw [h.ld]
 have hu : Try.prog.underlying 3 = some (.int .i64) := by kernel_rfl
 unfold bload
 rw [hu]
 rfl
theorem At.same {M : Mem} {s : Nat} {B : Blk} (h : At M s B) : M.set s B = M := by
 apply List.ext_getElem?
 intro i
 by_cases e : s = i
 ·subst e; rw [List.getElem?_set_self h.lt, h.get]
 ·rw [List.getElem?_set_ne e]
theorem Rw.boxSet {M : Mem} {b off n c s : Nat} {pre post : List Value} {xs : List Int} {x : Blk} (h : Rw M b off n c pre post xs) (hsb : s ≠ b) : Rw (M.set s x) b off n c pre post xs :=
 ⟨by rw [List.getElem?_set_ne hsb]; exact h.get, h.len, h.off, h.cap, h.pos⟩
theorem o2_spec {M : Mem} {b off n c s : Nat} {pre post : List Value} {xs : List Int} {k : Int} (h : Rw M b off n c pre post xs) (hs : At M s (.box [.int .i64 k])) (hk : -1000 ≤ k ∧ k ≤ 1000) (i j : Nat) (hi : i < n) (hj : j < n) :
  CallA Try.prog 146 [.slice (some ⟨b, off, none⟩) n c, .int .i64 i, .int .i64 j, .pointer (some ⟨s, 0, none⟩)] M fun v M' => ∃ (p q : Nat) (k' : Int), v = .tuple ⟨[.int .i64 p, .int .i64 q]⟩ ∧ (p = i ∧ q = j ∨ p = j ∧ q = i) ∧ M' = M.set s (.box [.int .i64 k']) ∧ k ≤ k' ∧ k' ≤ k + 1 := by
 have hl1 := h.ld hi
 have hl2 := h.ld hj
 have hb := box_ld hs
 (refine CallA.of_body Try.func146 rfl (by rfl) ?_; simp only [Try.ntmps146, List.length_cons, List.length_nil, List.replicate, List.cons_append, List.nil_append, Nat.reduceSub, Nat.reduceAdd])
 (repeat (first | refine st ?_ | refine σa ?_ | (refine σb ?_; simp (disch := omega) only [push_cast, ↓reduceIte, reduceCtorEq, ν1, ν2, ν3, ν4, ν5, ζ1, ζ2, ζ3, ζ4, ζ5])))
 refine AW.dr (by rfl) [0, 1, 2, 3, 4, 5, 6, 7, 8] (by kernel_rfl) (by kernel_rfl) ?_
 (repeat (first | refine st ?_ | refine σa ?_ | ((first | refine σd ?_ | refine σc ?_); simp (disch := omega) only [push_cast, ↓reduceIte, reduceCtorEq, ν1, ν2, ν3, ν4, ν5, ζ1, ζ2, ζ3, ζ4, ζ5, hl1, hl2, hi, hj, w_i64, Int.toNat_natCast])))
 refine (less_spec _ _ _).mono ?_
 rintro r M3 ⟨rfl, rfl⟩
 (repeat (first | refine st ?_ | refine σa ?_ | ((first | refine σd ?_ | refine σc ?_); simp (disch := omega) only [push_cast, ↓reduceIte, reduceCtorEq, ν1, ν2, ν3, ν4, ν5, ζ1, ζ2, ζ3, ζ4, ζ5])))
 (repeat (first | refine st ?_ | refine σa ?_ | (refine σb ?_; simp (disch := omega) only [push_cast, ↓reduceIte, reduceCtorEq, ν1, ν2, ν3, ν4, ν5, ζ1, ζ2, ζ3, ζ4, ζ5])))
 ((first | refine AL.gu rfl (fun hc => ?_) (fun hc => ?_) | refine AW.condS rfl rfl (fun hc => ?_) (fun hc => ?_)) <;> (try (have hc' := hc; simp only [Bool.not_eq_true', Bool.not_eq_false', Bool.not_true, Bool.not_false, decide_eq_true_eq, decide_eq_false_iff_not, Classical.not_not, Int.not_lt, Int.not_le, gt_iff_lt, ge_iff_le, beq_iff_eq] at hc')))
 ·(repeat (first | refine st ?_ | refine σa ?_ | (refine σb ?_; simp (disch := omega) only [push_cast, ↓reduceIte, reduceCtorEq, ν1, ν2, ν3, ν4, ν5, ζ1, ζ2, ζ3, ζ4, ζ5, hb, hs.get, Option.some.injEq, exists_eq_left', Blk.put, Blk.ours, Blk.cells, w_i64])))
  ((first | refine retA.ret (by rfl) ?_ | refine retA.normal (by rfl) ?_); simp (disch := omega) only [push_cast, ↓reduceIte, reduceCtorEq, Nat.reduceAdd, Nat.reduceMul, Nat.reduceLeDiff, Nat.reduceLT, Nat.reduceSub, Int.reduceNe, Int.reduceEq, Int.reduceLE, Int.reduceLT, Int.reduceToNat])
  exact ⟨j, i, rfl, .inr ⟨rfl, rfl⟩, k + 1, rfl, by omega, by omega⟩
 ·(repeat (first | refine st ?_ | refine σa ?_ | (refine σb ?_; simp (disch := omega) only [push_cast, ↓reduceIte, reduceCtorEq, ν1, ν2, ν3, ν4, ν5, ζ1, ζ2, ζ3, ζ4, ζ5])))
  ((first | refine retA.ret (by rfl) ?_ | refine retA.normal (by rfl) ?_); simp (disch := omega) only [push_cast, ↓reduceIte, reduceCtorEq, Nat.reduceAdd, Nat.reduceMul, Nat.reduceLeDiff, Nat.reduceLT, Nat.reduceSub, Int.reduceNe, Int.reduceEq, Int.reduceLE, Int.reduceLT, Int.reduceToNat])
  exact ⟨i, j, rfl, .inl ⟨rfl, rfl⟩, k, hs.same.symm, by omega, by omega⟩
theorem med_spec {M : Mem} {b off n c s : Nat} {pre post : List Value} {xs : List Int} {k : Int} (h : Rw M b off n c pre post xs) (hs : At M s (.box [.int .i64 k])) (hsb : s ≠ b) (hk : -900 ≤ k ∧ k ≤ 900) (i j l : Nat) (hi : i < n) (hj : j < n) (hl : l < n) :
  CallA Try.prog 137 [.slice (some ⟨b, off, none⟩) n c, .int .i64 i, .int .i64 j, .int .i64 l, .pointer (some ⟨s, 0, none⟩)] M fun v M' => ∃ (p : Nat) (k' : Int), v = .int .i64 p ∧ (p = i ∨ p = j ∨ p = l) ∧ M' = M.set s (.box [.int .i64 k']) ∧ k ≤ k' ∧ k' ≤ k + 3 := by
 (refine CallA.of_body Try.func137 rfl (by rfl) ?_; simp only [Try.ntmps137, List.length_cons, List.length_nil, List.replicate, List.cons_append, List.nil_append, Nat.reduceSub, Nat.reduceAdd])
 (repeat (first | refine st ?_ | refine σa ?_ | (refine σb ?_; simp (disch := omega) only [push_cast, ↓reduceIte, reduceCtorEq, ν1, ν2, ν3, ν4, ν5, ζ1, ζ2, ζ3, ζ4, ζ5])))
 refine (o2_spec h hs (by omega) i j hi hj).mono ?_
 rintro r M1 ⟨p1, q1, k1, rfl, hp1, rfl, hk1, hk1'⟩
 (repeat (first | refine st ?_ | refine σa ?_ | (refine σb ?_; simp (disch := omega) only [push_cast, ↓reduceIte, reduceCtorEq, ν1, ν2, ν3, ν4, ν5, ζ1, ζ2, ζ3, ζ4, ζ5])))
 have h1 := h.boxSet (s := s) (x := .box [.int .i64 k1]) hsb
 have hs1 := hs.set (.box [.int .i64 k1])
 refine (o2_spec h1 hs1 (by omega) q1 l (by omega) hl).mono ?_
 rintro r M2 ⟨p2, q2, k2, rfl, hp2, rfl, hk2, hk2'⟩
 (repeat (first | refine st ?_ | refine σa ?_ | (refine σb ?_; simp (disch := omega) only [push_cast, ↓reduceIte, reduceCtorEq, ν1, ν2, ν3, ν4, ν5, ζ1, ζ2, ζ3, ζ4, ζ5])))
 have h2 := h1.boxSet (s := s) (x := .box [.int .i64 k2]) hsb
 have hs2 := hs1.set (.box [.int .i64 k2])
 refine (o2_spec h2 hs2 (by omega) p1 p2 (by omega) (by omega)).mono ?_
 rintro r M3 ⟨p3, q3, k3, rfl, hp3, rfl, hk3, hk3'⟩
 (repeat (first | refine st ?_ | refine σa ?_ | (refine σb ?_; simp (disch := omega) only [push_cast, ↓reduceIte, reduceCtorEq, ν1, ν2, ν3, ν4, ν5, ζ1, ζ2, ζ3, ζ4, ζ5])))
 ((first | refine retA.ret (by rfl) ?_ | refine retA.normal (by rfl) ?_); simp (disch := omega) only [push_cast, ↓reduceIte, reduceCtorEq, Nat.reduceAdd, Nat.reduceMul, Nat.reduceLeDiff, Nat.reduceLT, Nat.reduceSub, Int.reduceNe, Int.reduceEq, Int.reduceLE, Int.reduceLT, Int.reduceToNat])
 exact ⟨q3, rfl, by omega, k3, by simp only [List.set_set], by omega, by omega⟩
theorem adj_spec {M : Mem} {b off n c s : Nat} {pre post : List Value} {xs : List Int} {k : Int} (h : Rw M b off n c pre post xs) (hs : At M s (.box [.int .i64 k])) (hsb : s ≠ b) (hk : -900 ≤ k ∧ k ≤ 900) (hn : n ≤ 1000000000) (i : Nat) (h0 : 0 < i) (hi : i + 1 < n) :
  CallA Try.prog 136 [.slice (some ⟨b, off, none⟩) n c, .int .i64 i, .pointer (some ⟨s, 0, none⟩)] M fun v M' => ∃ (p : Nat) (k' : Int), v = .int .i64 p ∧ (p + 1 = i ∨ p = i ∨ p = i + 1) ∧ M' = M.set s (.box [.int .i64 k']) ∧ k ≤ k' ∧ k' ≤ k + 3 := by
 have e1 : (i : Int) - 1 = ((i - 1 : Nat) : Int) := by omega
 have e2 : (i : Int) + 1 = ((i + 1 : Nat) : Int) := by omega
 (refine CallA.of_body Try.func136 rfl (by rfl) ?_; simp only [Try.ntmps136, List.length_cons, List.length_nil, List.replicate, List.cons_append, List.nil_append, Nat.reduceSub, Nat.reduceAdd])
 (repeat (first | refine st ?_ | refine σa ?_ | (refine σb ?_; simp (disch := omega) only [push_cast, ↓reduceIte, reduceCtorEq, ν1, ν2, ν3, ν4, ν5, ζ1, ζ2, ζ3, ζ4, ζ5, w_i64])))
 rw [e1, e2]
 refine (med_spec h hs hsb hk (i - 1) i (i + 1) (by omega) (by omega) hi).mono ?_
 rintro r M1 ⟨p, k1, rfl, hp, rfl, hk1, hk1'⟩
 (repeat (first | refine st ?_ | refine σa ?_ | (refine σb ?_; simp (disch := omega) only [push_cast, ↓reduceIte, reduceCtorEq, ν1, ν2, ν3, ν4, ν5, ζ1, ζ2, ζ3, ζ4, ζ5])))
 ((first | refine retA.ret (by rfl) ?_ | refine retA.normal (by rfl) ?_); simp (disch := omega) only [push_cast, ↓reduceIte, reduceCtorEq, Nat.reduceAdd, Nat.reduceMul, Nat.reduceLeDiff, Nat.reduceLT, Nat.reduceSub, Int.reduceNe, Int.reduceEq, Int.reduceLE, Int.reduceLT, Int.reduceToNat])
 exact ⟨p, rfl, by omega, k1, rfl, by omega, by omega⟩
theorem boxX_ld {M : Mem} {s : Nat} {k : Int} (h : At M s (.box [.int .u64 k])) : aload Try.prog 218 M s 0 = some (.int .u64 k) := by
 rw [h.ld]
 have hu : Try.prog.underlying 218 = some (.int .u64) := by kernel_rfl
 unfold bload
 rw [hu]
 rfl
theorem next_spec {M : Mem} {s : Nat} {k : Int} (hs : At M s (.box [.int .u64 k])) :
  CallA Try.prog 135 [.pointer (some ⟨s, 0, none⟩)] M fun v M' => ∃ k', v = .int .u64 k' ∧ M' = M.set s (.box [.int .u64 k']) := by
 have hb := boxX_ld hs
 have hb2 : ∀ q, aload Try.prog 218 (M.set s (.box [.int .u64 q])) s 0 = some (.int .u64 q) := fun q => boxX_ld (hs.set _)
 have hg2 : ∀ B, (M.set s B)[s]? = some B := fun B => (hs.set B).get
 have h1 : ∀ a b : Value, spl [a] 0 [b] = [b] := fun _ _ => rfl
 (refine CallA.of_body Try.func135 rfl (by rfl) ?_; simp only [Try.ntmps135, List.length_cons, List.length_nil, List.replicate, List.cons_append, List.nil_append, Nat.reduceSub, Nat.reduceAdd])
 (repeat (first | refine st ?_ | refine σa ?_ | (refine σb ?_; simp (disch := omega) only [push_cast, ↓reduceIte, reduceCtorEq, ν1, ν2, ν3, ν4, ν5, ζ1, ζ2, ζ3, ζ4, ζ5])))
 refine AW.dr (by rfl) [0, 1, 2, 3, 4, 5, 6, 7, 8, 9] (by kernel_rfl) (by kernel_rfl) ?_
 (repeat (first | refine st ?_ | refine σa ?_ | ((first | refine σd ?_ | refine σc ?_); simp (disch := omega) only [push_cast, ↓reduceIte, reduceCtorEq, ν1, ν2, ν3, ν4, ν5, ζ1, ζ2, ζ3, ζ4, ζ5, hb, bits, h1, hs.get, Option.some.injEq, exists_eq_left', Blk.put, Blk.ours, Blk.cells])))
 generalize IntKind.u64.wrap _ = k1
 (repeat (first | refine st ?_ | refine σa ?_ | (refine σb ?_; simp (disch := omega) only [push_cast, ↓reduceIte, reduceCtorEq, ν1, ν2, ν3, ν4, ν5, ζ1, ζ2, ζ3, ζ4, ζ5])))
 refine AW.dr (by rfl) [0, 1, 2, 3, 4, 5, 6, 7, 8, 9] (by kernel_rfl) (by kernel_rfl) ?_
 (repeat (first | refine st ?_ | refine σa ?_ | ((first | refine σd ?_ | refine σc ?_); simp (disch := omega) only [push_cast, ↓reduceIte, reduceCtorEq, ν1, ν2, ν3, ν4, ν5, ζ1, ζ2, ζ3, ζ4, ζ5, hb2, bits, h1, hg2, Option.some.injEq, exists_eq_left', Blk.put, Blk.ours, Blk.cells, List.set_set])))
 generalize IntKind.u64.wrap _ = k2
 (repeat (first | refine st ?_ | refine σa ?_ | (refine σb ?_; simp (disch := omega) only [push_cast, ↓reduceIte, reduceCtorEq, ν1, ν2, ν3, ν4, ν5, ζ1, ζ2, ζ3, ζ4, ζ5])))
 refine AW.dr (by rfl) [0, 1, 2, 3, 4, 5, 6, 7, 8, 9] (by kernel_rfl) (by kernel_rfl) ?_
 (repeat (first | refine st ?_ | refine σa ?_ | ((first | refine σd ?_ | refine σc ?_); simp (disch := omega) only [push_cast, ↓reduceIte, reduceCtorEq, ν1, ν2, ν3, ν4, ν5, ζ1, ζ2, ζ3, ζ4, ζ5, hb2, bits, h1, hg2, Option.some.injEq, exists_eq_left', Blk.put, Blk.ours, Blk.cells, List.set_set])))
 (repeat (first | refine st ?_ | refine σa ?_ | (refine σb ?_; simp (disch := omega) only [push_cast, ↓reduceIte, reduceCtorEq, ν1, ν2, ν3, ν4, ν5, ζ1, ζ2, ζ3, ζ4, ζ5, hb2])))
 ((first | refine retA.ret (by rfl) ?_ | refine retA.normal (by rfl) ?_); simp (disch := omega) only [push_cast, ↓reduceIte, reduceCtorEq, Nat.reduceAdd, Nat.reduceMul, Nat.reduceLeDiff, Nat.reduceLT, Nat.reduceSub, Int.reduceNe, Int.reduceEq, Int.reduceLE, Int.reduceLT, Int.reduceToNat])
 exact ⟨_, rfl, rfl⟩
end Go.Proofs.Ytbdejnnbpdgjlaa.Ax
