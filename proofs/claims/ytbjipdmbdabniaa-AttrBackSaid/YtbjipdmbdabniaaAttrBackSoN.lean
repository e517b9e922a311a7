/- Contracts of functions over the abstract machine. No conditions: lemmas alone. -/
import Derived.Test.YtbjipdmbdabniaaAttrBackLibD
import Derived.Test.YtbjipdmbdabniaaAttrBackSoM
namespace Go.Proofs.Ytbjipdmbdabniaa.Ax
open Go Go.RowKit
set_option linter.unusedVariables false
set_option linter.unusedSimpArgs false
set_option maxRecDepth 100000
set_option maxHeartbeats 20000000
attribute [local irreducible] thenA blockA scopeA retA AL AW AD ADL AH clrK CallA apure aload bload appK ptrK fnK ares szOk planOk okOps
theorem ins0_spec (v : Value) (M : Mem) : CallA Try.prog 52 [v, .int .i64 0, .int .i64 0] M fun _ M' => M' = M := by
  (refine CallA.of_body Try.func52 rfl (by rfl) ?_; simp only [Try.ntmps52, List.length_cons, List.length_nil, List.replicate, List.cons_append, List.nil_append, Nat.reduceSub, Nat.reduceAdd])
  (repeat (first | refine st ?_ | refine ADL.hd rfl ?_ | refine blockA.here ?_ | refine blockA.exit rfl ?_ | (refine And.intro (by omega) ?_) | (refine AW.condT rfl rfl (by first | rfl | assumption) ?_) | (refine AW.condF rfl rfl (by first | rfl | assumption) ?_) | (refine AL.guT rfl (by first | rfl | assumption) ?_) | refine AW.dr (id := 4) (by rfl) [0, 1, 2, 3, 4, 5, 6, 7, 8, 9, 10, 11, 12, 13, 14] (by kernel_rfl) (by kernel_rfl) ?_ | refine AW.dr (id := 6) (by rfl) [0, 1, 2, 3, 4, 5, 6, 7, 8, 9, 10, 11, 12, 13, 14, 15, 16, 17] (by kernel_rfl) (by kernel_rfl) ?_ | ((first | refine AL.ld rfl ?_ | refine AL.st rfl rfl ?_ | refine AL.ca rfl ?_ | refine AL.pu rfl ?_ | refine AL.guF rfl (by first | rfl | assumption) ?_ | refine AL.skip rfl ?_ | refine AH.ld rfl ?_ | refine AH.stN rfl rfl (by kernel_rfl) ?_ | refine AH.pu rfl rfl ?_ | refine AH.guF rfl (by first | rfl | assumption) ?_ | refine AH.sk rfl ?_ | refine AH.guLd rfl (by first | rfl | assumption) rfl ?_ | refine AH.guCa rfl (by first | rfl | assumption) rfl ?_ | refine AH.guPu rfl rfl (by first | rfl | assumption) rfl ?_); simp (disch := omega) only [push_cast, ↓reduceIte, reduceCtorEq, Nat.reduceAdd, Nat.reduceMul, Nat.reduceLeDiff, Nat.reduceLT, Nat.reduceSub, Int.reduceNe, Int.reduceEq, Int.reduceLE, Int.reduceLT, Int.reduceToNat, w_i64])))
  refine AW.loopF [6, 7, 10, 11, 12, 13, 14, 15, 16, 17, 18, 19, 20, 21, 22, 23, 24, 25, 26, 27, 28, 29, 30, 31, 32, 33, 34, 35, 36, 37, 38, 39, 40, 41, 42, 43, 44, 45, 46, 47, 48] (fun m g M' => g 6 = .int .i64 1 ∧ M' = M) 0 ?_ ?_
  · exact ⟨rfl, rfl⟩
  rintro m g M1 ⟨h6, rfl⟩
  simp (disch := omega) only [push_cast, ↓reduceIte, reduceCtorEq, Nat.reduceAdd, Nat.reduceMul, Nat.reduceLeDiff, Nat.reduceLT, Nat.reduceSub, Int.reduceNe, Int.reduceEq, Int.reduceLE, Int.reduceLT, Int.reduceToNat, h6]
  have hd : decide ((1 : Int) < 0) = false := rfl
  (repeat (first | refine st ?_ | refine ADL.hd rfl ?_ | refine blockA.here ?_ | refine blockA.exit rfl ?_ | (refine And.intro (by omega) ?_) | (refine AW.condT rfl rfl (by first | rfl | assumption) ?_) | (refine AW.condF rfl rfl (by first | rfl | assumption) ?_) | (refine AL.guT rfl (by first | rfl | assumption) ?_) | refine AW.dr (id := 4) (by rfl) [0, 1, 2, 3, 4, 5, 6, 7, 8, 9, 10, 11, 12, 13, 14] (by kernel_rfl) (by kernel_rfl) ?_ | refine AW.dr (id := 6) (by rfl) [0, 1, 2, 3, 4, 5, 6, 7, 8, 9, 10, 11, 12, 13, 14, 15, 16, 17] (by kernel_rfl) (by kernel_rfl) ?_ | ((first | refine AL.ld rfl ?_ | refine AL.st rfl rfl ?_ | refine AL.ca rfl ?_ | refine AL.pu rfl ?_ | refine AL.guF rfl (by first | rfl | assumption) ?_ | refine AL.skip rfl ?_ | refine AH.ld rfl ?_ | refine AH.stN rfl rfl (by kernel_rfl) ?_ | refine AH.pu rfl rfl ?_ | refine AH.guF rfl (by first | rfl | assumption) ?_ | refine AH.sk rfl ?_ | refine AH.guLd rfl (by first | rfl | assumption) rfl ?_ | refine AH.guCa rfl (by first | rfl | assumption) rfl ?_ | refine AH.guPu rfl rfl (by first | rfl | assumption) rfl ?_); simp (disch := omega) only [push_cast, ↓reduceIte, reduceCtorEq, Nat.reduceAdd, Nat.reduceMul, Nat.reduceLeDiff, Nat.reduceLT, Nat.reduceSub, Int.reduceNe, Int.reduceEq, Int.reduceLE, Int.reduceLT, Int.reduceToNat, hd])))
  ((first | refine retA.ret (by rfl) ?_ | refine retA.normal (by rfl) ?_); simp (disch := omega) only [push_cast, ↓reduceIte, reduceCtorEq, Nat.reduceAdd, Nat.reduceMul, Nat.reduceLeDiff, Nat.reduceLT, Nat.reduceSub, Int.reduceNe, Int.reduceEq, Int.reduceLE, Int.reduceLT, Int.reduceToNat])
  exact ⟨_, rfl⟩
theorem pdq0_spec (v : Value) (M : Mem) (l : Int) : CallA Try.prog 47 [v, .int .i64 0, .int .i64 0, .int .i64 l] M fun _ M' => M' = M := by
  (refine CallA.of_body Try.func47 rfl (by rfl) ?_; simp only [Try.ntmps47, List.length_cons, List.length_nil, List.replicate, List.cons_append, List.nil_append, Nat.reduceSub, Nat.reduceAdd])
  (repeat (first | refine st ?_ | refine ADL.hd rfl ?_ | refine blockA.here ?_ | refine blockA.exit rfl ?_ | (refine And.intro (by omega) ?_) | (refine AW.condT rfl rfl (by first | rfl | assumption) ?_) | (refine AW.condF rfl rfl (by first | rfl | assumption) ?_) | (refine AL.guT rfl (by first | rfl | assumption) ?_) | refine AW.dr (id := 17) (by rfl) [0, 1, 2, 3, 4, 5, 6, 7, 8, 9, 10, 11, 12, 13, 14] (by kernel_rfl) (by kernel_rfl) ?_ | ((first | refine AL.ld rfl ?_ | refine AL.ca rfl ?_ | refine AL.pu rfl ?_ | refine AL.guF rfl (by first | rfl | assumption) ?_ | refine AL.skip rfl ?_ | refine AH.ld rfl ?_ | refine AH.pu rfl rfl ?_ | refine AH.guF rfl (by first | rfl | assumption) ?_ | refine AH.sk rfl ?_ | refine AH.guLd rfl (by first | rfl | assumption) rfl ?_ | refine AH.guCa rfl (by first | rfl | assumption) rfl ?_ | refine AH.guPu rfl rfl (by first | rfl | assumption) rfl ?_); simp (disch := omega) only [push_cast, ↓reduceIte, reduceCtorEq, Nat.reduceAdd, Nat.reduceMul, Nat.reduceLeDiff, Nat.reduceLT, Nat.reduceSub, Int.reduceNe, Int.reduceEq, Int.reduceLE, Int.reduceLT, Int.reduceToNat])))
  refine AW.loopF [1, 2, 3, 8, 9, 10, 11, 12, 13, 14, 15, 16, 17, 18, 19, 20, 21, 22, 23, 24, 25, 26, 27, 28, 29, 30, 31, 32, 33, 34, 35, 36, 37, 38, 39, 40, 41, 42, 43, 44, 45, 46, 47, 48, 49, 50, 51, 52, 53, 54, 55, 56, 57, 58, 59, 60, 61, 62, 63, 64, 65, 66, 67, 68, 69, 70, 71, 72, 73, 74, 75, 76, 77, 78, 79, 80, 81, 82, 83, 84, 85, 86, 87, 88, 89, 90, 91, 92, 93, 94, 95, 96, 97, 98, 99, 100, 101, 102, 103, 104, 105, 106, 107, 108, 109, 110, 111, 112, 113, 114, 115, 116, 117, 118, 119, 120, 121, 122, 123, 124, 125, 126, 127, 128, 129, 130, 131, 132, 133] (fun m g M' => g 1 = .int .i64 0 ∧ g 2 = .int .i64 0 ∧ M' = M) 0 ?_ ?_
  · exact ⟨rfl, rfl, rfl⟩
  rintro m g M1 ⟨h1, h2, rfl⟩
  simp (disch := omega) only [push_cast, ↓reduceIte, reduceCtorEq, Nat.reduceAdd, Nat.reduceMul, Nat.reduceLeDiff, Nat.reduceLT, Nat.reduceSub, Int.reduceNe, Int.reduceEq, Int.reduceLE, Int.reduceLT, Int.reduceToNat, h1, h2]
  have hd : decide ((0 : Int) ≤ 12) = true := rfl
  have h0 : (0 : Int) - 0 = 0 := rfl
  (repeat (first | refine st ?_ | refine ADL.hd rfl ?_ | refine blockA.here ?_ | refine blockA.exit rfl ?_ | (refine And.intro (by omega) ?_) | (refine AW.condT rfl rfl (by first | rfl | assumption) ?_) | (refine AW.condF rfl rfl (by first | rfl | assumption) ?_) | (refine AL.guT rfl (by first | rfl | assumption) ?_) | refine AW.dr (id := 17) (by rfl) [0, 1, 2, 3, 4, 5, 6, 7, 8, 9, 10, 11, 12, 13, 14] (by kernel_rfl) (by kernel_rfl) ?_ | ((first | refine AL.ld rfl ?_ | refine AL.ca rfl ?_ | refine AL.pu rfl ?_ | refine AL.guF rfl (by first | rfl | assumption) ?_ | refine AL.skip rfl ?_ | refine AH.ld rfl ?_ | refine AH.pu rfl rfl ?_ | refine AH.guF rfl (by first | rfl | assumption) ?_ | refine AH.sk rfl ?_ | refine AH.guLd rfl (by first | rfl | assumption) rfl ?_ | refine AH.guCa rfl (by first | rfl | assumption) rfl ?_ | refine AH.guPu rfl rfl (by first | rfl | assumption) rfl ?_); simp (disch := omega) only [push_cast, ↓reduceIte, reduceCtorEq, Nat.reduceAdd, Nat.reduceMul, Nat.reduceLeDiff, Nat.reduceLT, Nat.reduceSub, Int.reduceNe, Int.reduceEq, Int.reduceLE, Int.reduceLT, Int.reduceToNat, w_i64, h0, hd])))
  refine (ins0_spec v _).mono ?_
  rintro r M2 rfl
  (repeat (first | refine st ?_ | refine ADL.hd rfl ?_ | refine blockA.here ?_ | refine blockA.exit rfl ?_ | (refine And.intro (by omega) ?_) | (refine AW.condT rfl rfl (by first | rfl | assumption) ?_) | (refine AW.condF rfl rfl (by first | rfl | assumption) ?_) | (refine AL.guT rfl (by first | rfl | assumption) ?_) | refine AW.dr (id := 17) (by rfl) [0, 1, 2, 3, 4, 5, 6, 7, 8, 9, 10, 11, 12, 13, 14] (by kernel_rfl) (by kernel_rfl) ?_ | ((first | refine AL.ld rfl ?_ | refine AL.ca rfl ?_ | refine AL.pu rfl ?_ | refine AL.guF rfl (by first | rfl | assumption) ?_ | refine AL.skip rfl ?_ | refine AH.ld rfl ?_ | refine AH.pu rfl rfl ?_ | refine AH.guF rfl (by first | rfl | assumption) ?_ | refine AH.sk rfl ?_ | refine AH.guLd rfl (by first | rfl | assumption) rfl ?_ | refine AH.guCa rfl (by first | rfl | assumption) rfl ?_ | refine AH.guPu rfl rfl (by first | rfl | assumption) rfl ?_); simp (disch := omega) only [push_cast, ↓reduceIte, reduceCtorEq, Nat.reduceAdd, Nat.reduceMul, Nat.reduceLeDiff, Nat.reduceLT, Nat.reduceSub, Int.reduceNe, Int.reduceEq, Int.reduceLE, Int.reduceLT, Int.reduceToNat])))
  ((first | refine retA.ret (by rfl) ?_ | refine retA.normal (by rfl) ?_); simp (disch := omega) only [push_cast, ↓reduceIte, reduceCtorEq, Nat.reduceAdd, Nat.reduceMul, Nat.reduceLeDiff, Nat.reduceLT, Nat.reduceSub, Int.reduceNe, Int.reduceEq, Int.reduceLE, Int.reduceLT, Int.reduceToNat])
  exact ⟨_, rfl⟩
/-- A slice of numbers of ours is a piece of a row, or empty. -/
theorem Own.rw {M : Mem} {v : Value} {xs : List Int} (h : Own M v 1 (ints .u32 xs)) : (xs = [] ∧ sln v = 0) ∨ ∃ b off c pre, v = .slice (some ⟨b, off, none⟩) xs.length c ∧ Rw M b off xs.length c pre [] xs := by
  have hn := h.sl.lnI
  rcases h.own with rfl | ⟨a, rfl⟩ | ⟨b, off, n, c, cc, rfl, hc, hB, hend⟩
  · exact .inl ⟨List.eq_nil_of_length_eq_zero hn.symm, rfl⟩
  · exact .inl ⟨List.eq_nil_of_length_eq_zero hn.symm, rfl⟩
  · right
    have hn : n = xs.length := hn
    subst hn
    have hd := h.get hB hend
    have hcap : xs.length ≤ capLb c := h.sl.caps
    refine ⟨b, off, c, cc.take off, rfl, ⟨?_, rfl, by simp; omega, hcap, hc⟩⟩
    rw [hB, List.append_nil, ← hd, List.take_append_drop]
theorem Rw.own {M : Mem} {b off c : Nat} {pre : List Value} {n : Nat} {xs : List Int} (h : Rw M b off n c pre [] xs) : Own M (.slice (some ⟨b, off, none⟩) n c) 1 (ints .u32 xs) := by
  have hl := h.len
  have ho := h.off
  refine Own.at (by omega) h.get (by simp [ints]; omega) ?_ (by simp [ints]; omega) (ints_one _ _) h.cap
  rw [List.append_nil, ← ho, List.drop_left]
theorem sort_spec (v : Value) (xs : List Int) (M : Mem) (hv : Own M v 1 (ints .u32 xs)) (hl : xs.length ≤ 1000000000) :
    CallA Try.prog 36 [v] M fun _ M' => ∃ ys, ys.Perm xs ∧ SortOn 0 xs.length ys ∧ Own M' v 1 (ints .u32 ys) ∧ Fr M M' (blkOf v) := by
  have hs := hv.sl.isSl
  have hn := hv.sl.lnI
  (refine CallA.of_body Try.func36 rfl (by rfl) ?_; simp only [Try.ntmps36, List.length_cons, List.length_nil, List.replicate, List.cons_append, List.nil_append, Nat.reduceSub, Nat.reduceAdd])
  (repeat (first | refine st ?_ | (refine And.intro (by omega) ?_) | ((first | refine AL.ca rfl ?_ | refine AL.pu rfl ?_); simp (disch := omega) only [push_cast, ↓reduceIte, reduceCtorEq, Nat.reduceAdd, Nat.reduceMul, Nat.reduceLeDiff, Nat.reduceLT, Nat.reduceSub, Int.reduceNe, Int.reduceEq, Int.reduceLE, Int.reduceLT, Int.reduceToNat, hs, hn, w_u64])))
  refine (len_spec xs.length M hl).mono ?_
  rintro r M1 ⟨k, rfl, hk, -, rfl⟩
  (repeat (first | refine st ?_ | (refine And.intro (by omega) ?_) | ((first | refine AL.ca rfl ?_ | refine AL.pu rfl ?_); simp (disch := omega) only [push_cast, ↓reduceIte, reduceCtorEq, Nat.reduceAdd, Nat.reduceMul, Nat.reduceLeDiff, Nat.reduceLT, Nat.reduceSub, Int.reduceNe, Int.reduceEq, Int.reduceLE, Int.reduceLT, Int.reduceToNat])))
  rcases hv.rw with ⟨rfl, h0⟩ | ⟨b, off, c, pre, rfl, hR⟩
  · refine (pdq0_spec v M1 k).mono ?_
    rintro r M2 rfl
    (repeat (first | refine st ?_ | (refine And.intro (by omega) ?_) | ((first | refine AL.ca rfl ?_ | refine AL.pu rfl ?_); simp (disch := omega) only [push_cast, ↓reduceIte, reduceCtorEq, Nat.reduceAdd, Nat.reduceMul, Nat.reduceLeDiff, Nat.reduceLT, Nat.reduceSub, Int.reduceNe, Int.reduceEq, Int.reduceLE, Int.reduceLT, Int.reduceToNat])))
    ((first | refine retA.ret (by rfl) ?_ | refine retA.normal (by rfl) ?_); simp (disch := omega) only [push_cast, ↓reduceIte, reduceCtorEq, Nat.reduceAdd, Nat.reduceMul, Nat.reduceLeDiff, Nat.reduceLT, Nat.reduceSub, Int.reduceNe, Int.reduceEq, Int.reduceLE, Int.reduceLT, Int.reduceToNat])
    exact ⟨[], .refl _, fun i j h1 h2 h3 => absurd h3 (by simp), hv, (Fr.refl M2).cut (by simp)⟩
  · refine (pdq_spec xs.length hR 0 xs.length k rfl (by omega) (Nat.le_refl _) hl (by omega) (fun i j h1 h2 h3 => by omega)).mono ?_
    rintro r M2 ⟨ys, hR2, hF2, hP, hS⟩
    (repeat (first | refine st ?_ | (refine And.intro (by omega) ?_) | ((first | refine AL.ca rfl ?_ | refine AL.pu rfl ?_); simp (disch := omega) only [push_cast, ↓reduceIte, reduceCtorEq, Nat.reduceAdd, Nat.reduceMul, Nat.reduceLeDiff, Nat.reduceLT, Nat.reduceSub, Int.reduceNe, Int.reduceEq, Int.reduceLE, Int.reduceLT, Int.reduceToNat])))
    ((first | refine retA.ret (by rfl) ?_ | refine retA.normal (by rfl) ?_); simp (disch := omega) only [push_cast, ↓reduceIte, reduceCtorEq, Nat.reduceAdd, Nat.reduceMul, Nat.reduceLeDiff, Nat.reduceLT, Nat.reduceSub, Int.reduceNe, Int.reduceEq, Int.reduceLE, Int.reduceLT, Int.reduceToNat])
    have hbk : blkOf (.slice (some ⟨b, off, none⟩) xs.length c) = [b] := by show (if c = 0 then [] else [b]) = [b]; rw [if_neg hR.pos]
    exact ⟨ys, hP.perm, hS, hR2.own, by rw [hbk]; exact hF2⟩

end Go.Proofs.Ytbjipdmbdabniaa.Ax
