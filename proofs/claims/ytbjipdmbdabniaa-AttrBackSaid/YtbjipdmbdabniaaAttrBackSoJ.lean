/- Contracts of functions over the abstract machine. No conditions: lemmas alone. -/
import Derived.Test.YtbjipdmbdabniaaAttrBackLibD
import Derived.Test.YtbjipdmbdabniaaAttrBackSoI
import Derived.Test.YtbjipdmbdabniaaAttrBackSoE
import Derived.Test.YtbjipdmbdabniaaAttrBackSoD
namespace Go.Proofs.Ytbjipdmbdabniaa.Ax
open Go Go.RowKit
set_option linter.unusedVariables false
set_option linter.unusedSimpArgs false
set_option maxRecDepth 100000
set_option maxHeartbeats 20000000
attribute [local irreducible] thenA blockA scopeA retA AL AW AD ADL AH clrK CallA apure aload bload appK ptrK fnK ares szOk planOk okOps
theorem and_low (x : Int) (m : Nat) (h1 : 1 ≤ m) (h2 : m ≤ 4294967296) : ∃ o : Nat, IntKind.i64.wrap (IntKind.u64.wrap ((BitVec.ofInt IntKind.u64.bits x &&& BitVec.ofInt IntKind.u64.bits ((m : Int) - 1)).toNat : Int)) = (o : Int) ∧ o < m := by
  have e : (BitVec.ofInt IntKind.u64.bits ((m : Int) - 1)).toNat = m - 1 := by
    rw [show ((m : Int) - 1) = ((m - 1 : Nat) : Int) by omega, BitVec.ofInt_natCast, BitVec.toNat_ofNat]
    exact Nat.mod_eq_of_lt (by show m - 1 < 2 ^ 64; omega)
  have hle : (BitVec.ofInt IntKind.u64.bits x &&& BitVec.ofInt IntKind.u64.bits ((m : Int) - 1)).toNat ≤ m - 1 := by
    rw [BitVec.toNat_and, e]; exact Nat.and_le_right
  refine ⟨_, ?_, Nat.lt_of_le_of_lt hle (by omega)⟩
  rw [w_u64 (by omega) (by omega), w_i64 (by omega) (by omega)]
theorem brk_spec {M : Mem} {b off n c : Nat} {pre post : List Value} {xs : List Int} (h : Rw M b off n c pre post xs) (a l : Nat) (hl : 12 < l) (he : a + l ≤ n) (hn : n ≤ 1000000000) :
    CallA Try.prog 54 [.slice (some ⟨b, off, none⟩) n c, .int .i64 a, .int .i64 (a + l)] M fun v M' => ∃ ys, Rw M' b off n c pre post ys ∧ Fr M M' [b] ∧ PermOn a (a + l) xs ys := by
  have hlt := h.lt
  have hlen := h.len
  have e0 : (a : Int) + l - a = l := by omega
  have g1 : decide ((l : Int) ≥ 8) = true := decide_eq_true (by omega)
  obtain ⟨q, hq, hq0⟩ : ∃ q : Nat, (l : Int) / 4 = q ∧ q = l / 4 := ⟨l / 4, by omega, rfl⟩
  have h1 : ∀ B, Rw (M ++ [B]) b off n c pre post xs := fun B => h.push B
  have hls : ∀ B, (M ++ [B])[M.length]? = some B := fun B => (At.push M B).get
  have sp1 : ∀ a b : Value, spl [a] 0 [b] = [b] := fun _ _ => rfl
  (refine CallA.of_body Try.func54 rfl (by rfl) ?_; simp only [Try.ntmps54, List.length_cons, List.length_nil, List.replicate, List.cons_append, List.nil_append, Nat.reduceSub, Nat.reduceAdd])
  (repeat (first | refine st ?_ | refine ADL.hd rfl ?_ | refine blockA.here ?_ | refine blockA.exit rfl ?_ | (refine And.intro (by omega) ?_) | (refine AW.condT rfl rfl (by first | rfl | assumption) ?_) | (refine AW.condF rfl rfl (by first | rfl | assumption) ?_) | refine AW.dr (id := 10) (by rfl) [0, 1, 2, 3, 4, 5, 6, 7, 8, 9, 10, 11, 12, 13, 14, 15, 16, 17, 18, 19] (by kernel_rfl) (by kernel_rfl) ?_ | ((first | refine AL.ld rfl ?_ | refine AL.al ?_ | refine AL.st rfl rfl ?_ | refine AL.ca rfl ?_ | refine AL.pu rfl ?_ | refine AH.ld rfl ?_ | refine AH.al ?_ | refine AH.stN rfl rfl (by kernel_rfl) ?_ | refine AH.pu rfl rfl ?_); simp (disch := omega) only [push_cast, ↓reduceIte, reduceCtorEq, Nat.reduceAdd, Nat.reduceMul, Nat.reduceLeDiff, Nat.reduceLT, Nat.reduceSub, Int.reduceNe, Int.reduceEq, Int.reduceLE, Int.reduceLT, Int.reduceToNat, w_i64, e0, tdiv_in, g1, hq, hls, sp1, Option.some.injEq, exists_eq_left', Blk.put, Blk.ours, Blk.cells])))
  refine (pow_spec l _ (by omega) (by omega)).mono ?_
  rintro r M1 ⟨mm, rfl, hm1, hm2, rfl⟩
  (repeat (first | refine st ?_ | refine ADL.hd rfl ?_ | refine blockA.here ?_ | refine blockA.exit rfl ?_ | (refine And.intro (by omega) ?_) | (refine AW.condT rfl rfl (by first | rfl | assumption) ?_) | (refine AW.condF rfl rfl (by first | rfl | assumption) ?_) | refine AW.dr (id := 10) (by rfl) [0, 1, 2, 3, 4, 5, 6, 7, 8, 9, 10, 11, 12, 13, 14, 15, 16, 17, 18, 19] (by kernel_rfl) (by kernel_rfl) ?_ | ((first | refine AL.ld rfl ?_ | refine AL.al ?_ | refine AL.st rfl rfl ?_ | refine AL.ca rfl ?_ | refine AL.pu rfl ?_ | refine AH.ld rfl ?_ | refine AH.al ?_ | refine AH.stN rfl rfl (by kernel_rfl) ?_ | refine AH.pu rfl rfl ?_); simp (disch := omega) only [push_cast, ↓reduceIte, reduceCtorEq, Nat.reduceAdd, Nat.reduceMul, Nat.reduceLeDiff, Nat.reduceLT, Nat.reduceSub, Int.reduceNe, Int.reduceEq, Int.reduceLE, Int.reduceLT, Int.reduceToNat, w_i64, tdiv_in, hq])))
  have hx0 := (h1 (.box [.int .u64 0])).boxSet (s := M.length) (x := .box [.int .u64 (IntKind.u64.wrap l)]) (by omega)
  have hs0 := (At.push M (.box [.int .u64 0])).set (Blk.box [.int .u64 (IntKind.u64.wrap l)])
  have hf0 : Fr M ((M ++ [Blk.box [.int .u64 0]]).set M.length (.box [.int .u64 (IntKind.u64.wrap l)])) [] := Fr.box M _ _
  clear h1 hls sp1 g1 e0
  generalize hs : M.length = s at *
  generalize (M ++ [Blk.box [.int .u64 0]]).set s (.box [.int .u64 (IntKind.u64.wrap l)]) = M1 at *
  have hsb : s ≠ b := by omega
  have e1 : (a : Int) + (q : Int) * 2 - 1 = ((a + q * 2 - 1 : Nat) : Int) := by omega
  rw [e1]
  generalize hi0 : a + q * 2 - 1 = i0
  have hi0' : i0 + 1 = a + q * 2 := by omega
  have hb2 : a + q * 2 + 1 < a + l := by omega
  clear hi0 e1
  refine AW.loopF [9, 10, 26, 27, 28, 29, 30, 31, 32, 33, 34, 35, 36, 37, 38, 39, 40, 41, 42, 43, 44, 45, 46, 47, 48, 49, 50, 51, 52, 53, 54, 55, 56, 57, 58, 59, 60, 61, 62, 63, 64] (fun m g M' => ∃ i : Nat, g 9 = .int .i64 i ∧ i0 ≤ i ∧ i ≤ i0 + 3 ∧ i + m = i0 + 3 ∧ ∃ k, At M' s (.box [.int .u64 k]) ∧ ∃ ys, Rw M' b off n c pre post ys ∧ Fr M M' [b] ∧ PermOn a (a + l) xs ys) 3 ?_ ?_
  · exact ⟨i0, rfl, by omega, by omega, by omega, _, hs0, xs, hx0, hf0.cut (by simp), PermOn.refl _ _ _⟩
  clear hs0 hx0 hf0
  rintro m g M2 ⟨i, h9, hi1, hi2, hm, k, hsk, ys, hR, hF, hP⟩
  have hyl := hP.len
  simp (disch := omega) only [push_cast, ↓reduceIte, reduceCtorEq, Nat.reduceAdd, Nat.reduceMul, Nat.reduceLeDiff, Nat.reduceLT, Nat.reduceSub, Int.reduceNe, Int.reduceEq, Int.reduceLE, Int.reduceLT, Int.reduceToNat, h9]
  (repeat (first | refine st ?_ | refine ADL.hd rfl ?_ | refine blockA.here ?_ | refine blockA.exit rfl ?_ | (refine And.intro (by omega) ?_) | (refine AW.condT rfl rfl (by first | rfl | assumption) ?_) | (refine AW.condF rfl rfl (by first | rfl | assumption) ?_) | refine AW.dr (id := 10) (by rfl) [0, 1, 2, 3, 4, 5, 6, 7, 8, 9, 10, 11, 12, 13, 14, 15, 16, 17, 18, 19] (by kernel_rfl) (by kernel_rfl) ?_ | ((first | refine AL.ld rfl ?_ | refine AL.al ?_ | refine AL.st rfl rfl ?_ | refine AL.ca rfl ?_ | refine AL.pu rfl ?_ | refine AH.ld rfl ?_ | refine AH.al ?_ | refine AH.stN rfl rfl (by kernel_rfl) ?_ | refine AH.pu rfl rfl ?_); simp (disch := omega) only [push_cast, ↓reduceIte, reduceCtorEq, Nat.reduceAdd, Nat.reduceMul, Nat.reduceLeDiff, Nat.reduceLT, Nat.reduceSub, Int.reduceNe, Int.reduceEq, Int.reduceLE, Int.reduceLT, Int.reduceToNat, w_i64, tdiv_in, hq])))
  ((first | refine AL.gu rfl (fun hg => ?_) (fun hg => ?_) | refine AW.condS rfl rfl (fun hg => ?_) (fun hg => ?_)) <;> (try (have hg' := hg; simp only [Bool.not_eq_true', Bool.not_eq_false', Bool.not_true, Bool.not_false, decide_eq_true_eq, decide_eq_false_iff_not, Classical.not_not, Int.not_lt, Int.not_le, gt_iff_lt, ge_iff_le, beq_iff_eq] at hg')))
  · (repeat (first | refine st ?_ | refine ADL.hd rfl ?_ | refine blockA.here ?_ | refine blockA.exit rfl ?_ | (refine And.intro (by omega) ?_) | (refine AW.condT rfl rfl (by first | rfl | assumption) ?_) | (refine AW.condF rfl rfl (by first | rfl | assumption) ?_) | refine AW.dr (id := 10) (by rfl) [0, 1, 2, 3, 4, 5, 6, 7, 8, 9, 10, 11, 12, 13, 14, 15, 16, 17, 18, 19] (by kernel_rfl) (by kernel_rfl) ?_ | ((first | refine AL.ld rfl ?_ | refine AL.al ?_ | refine AL.st rfl rfl ?_ | refine AL.ca rfl ?_ | refine AL.pu rfl ?_ | refine AH.ld rfl ?_ | refine AH.al ?_ | refine AH.stN rfl rfl (by kernel_rfl) ?_ | refine AH.pu rfl rfl ?_); simp (disch := omega) only [push_cast, ↓reduceIte, reduceCtorEq, Nat.reduceAdd, Nat.reduceMul, Nat.reduceLeDiff, Nat.reduceLT, Nat.reduceSub, Int.reduceNe, Int.reduceEq, Int.reduceLE, Int.reduceLT, Int.reduceToNat])))
    refine (next_spec hsk).mono ?_
    rintro r M3 ⟨k', rfl, rfl⟩
    obtain ⟨o, ho, ho1⟩ := and_low k' mm hm1 (by omega)
    have hR2 := hR.boxSet (s := s) (x := .box [.int .u64 k']) hsb
    have hsk2 := hsk.set (.box [.int .u64 k'])
    have hF2 : Fr M (M2.set s (.box [.int .u64 k'])) [b] := (hF.trans (Fr.set M2 s _)).cut (by intro x hx hlt; simp at hx ⊢; omega)
    generalize M2.set s (.box [.int .u64 k']) = M4 at *
    (repeat (first | refine st ?_ | refine ADL.hd rfl ?_ | refine blockA.here ?_ | refine blockA.exit rfl ?_ | (refine And.intro (by omega) ?_) | (refine AW.condT rfl rfl (by first | rfl | assumption) ?_) | (refine AW.condF rfl rfl (by first | rfl | assumption) ?_) | refine AW.dr (id := 10) (by rfl) [0, 1, 2, 3, 4, 5, 6, 7, 8, 9, 10, 11, 12, 13, 14, 15, 16, 17, 18, 19] (by kernel_rfl) (by kernel_rfl) ?_ | ((first | refine AL.ld rfl ?_ | refine AL.al ?_ | refine AL.st rfl rfl ?_ | refine AL.ca rfl ?_ | refine AL.pu rfl ?_ | refine AH.ld rfl ?_ | refine AH.al ?_ | refine AH.stN rfl rfl (by kernel_rfl) ?_ | refine AH.pu rfl rfl ?_); simp (disch := omega) only [push_cast, ↓reduceIte, reduceCtorEq, Nat.reduceAdd, Nat.reduceMul, Nat.reduceLeDiff, Nat.reduceLT, Nat.reduceSub, Int.reduceNe, Int.reduceEq, Int.reduceLE, Int.reduceLT, Int.reduceToNat, bits, w_u64])))
    rw [ho]
    refine AW.joinF [10, 44, 45, 46] (fun g M' => M' = M4 ∧ ∃ o : Nat, g 10 = .int .i64 o ∧ o < l) ?_ ?_
    · ((first | refine AL.gu rfl (fun hc => ?_) (fun hc => ?_) | refine AW.condS rfl rfl (fun hc => ?_) (fun hc => ?_)) <;> (try (have hc' := hc; simp only [Bool.not_eq_true', Bool.not_eq_false', Bool.not_true, Bool.not_false, decide_eq_true_eq, decide_eq_false_iff_not, Classical.not_not, Int.not_lt, Int.not_le, gt_iff_lt, ge_iff_le, beq_iff_eq] at hc')))
      · (repeat (first | refine st ?_ | refine ADL.hd rfl ?_ | refine blockA.here ?_ | refine blockA.exit rfl ?_ | (refine And.intro (by omega) ?_) | (refine AW.condT rfl rfl (by first | rfl | assumption) ?_) | (refine AW.condF rfl rfl (by first | rfl | assumption) ?_) | refine AW.dr (id := 10) (by rfl) [0, 1, 2, 3, 4, 5, 6, 7, 8, 9, 10, 11, 12, 13, 14, 15, 16, 17, 18, 19] (by kernel_rfl) (by kernel_rfl) ?_ | ((first | refine AL.ld rfl ?_ | refine AL.al ?_ | refine AL.st rfl rfl ?_ | refine AL.ca rfl ?_ | refine AL.pu rfl ?_ | refine AH.ld rfl ?_ | refine AH.al ?_ | refine AH.stN rfl rfl (by kernel_rfl) ?_ | refine AH.pu rfl rfl ?_); simp (disch := omega) only [push_cast, ↓reduceIte, reduceCtorEq, Nat.reduceAdd, Nat.reduceMul, Nat.reduceLeDiff, Nat.reduceLT, Nat.reduceSub, Int.reduceNe, Int.reduceEq, Int.reduceLE, Int.reduceLT, Int.reduceToNat, w_i64])))
        exact ⟨rfl, rfl, o - l, congrArg (Value.int .i64) (by omega), by omega⟩
      · (repeat (first | refine st ?_ | refine ADL.hd rfl ?_ | refine blockA.here ?_ | refine blockA.exit rfl ?_ | (refine And.intro (by omega) ?_) | (refine AW.condT rfl rfl (by first | rfl | assumption) ?_) | (refine AW.condF rfl rfl (by first | rfl | assumption) ?_) | refine AW.dr (id := 10) (by rfl) [0, 1, 2, 3, 4, 5, 6, 7, 8, 9, 10, 11, 12, 13, 14, 15, 16, 17, 18, 19] (by kernel_rfl) (by kernel_rfl) ?_ | ((first | refine AL.ld rfl ?_ | refine AL.al ?_ | refine AL.st rfl rfl ?_ | refine AL.ca rfl ?_ | refine AL.pu rfl ?_ | refine AH.ld rfl ?_ | refine AH.al ?_ | refine AH.stN rfl rfl (by kernel_rfl) ?_ | refine AH.pu rfl rfl ?_); simp (disch := omega) only [push_cast, ↓reduceIte, reduceCtorEq, Nat.reduceAdd, Nat.reduceMul, Nat.reduceLeDiff, Nat.reduceLT, Nat.reduceSub, Int.reduceNe, Int.reduceEq, Int.reduceLE, Int.reduceLT, Int.reduceToNat])))
        exact ⟨(over_self _ _).symm, rfl, o, rfl, by omega⟩
    clear ho ho1
    rintro g2 M5 ⟨rfl, o, h10, ho⟩
    have l1 := hR2.ld (i := a + o) (by omega)
    have l2 := hR2.ld (i := i) (by omega)
    have hR3 := hR2.put (ys := ys.set i (ys.getD (a + o) 0)) (by simp)
    have hR4 := hR2.put (ys := swap ys i (a + o)) (swap_length _ _ _)
    simp (disch := omega) only [push_cast, ↓reduceIte, reduceCtorEq, Nat.reduceAdd, Nat.reduceMul, Nat.reduceLeDiff, Nat.reduceLT, Nat.reduceSub, Int.reduceNe, Int.reduceEq, Int.reduceLE, Int.reduceLT, Int.reduceToNat, h10]
    (repeat (first | refine st ?_ | refine ADL.hd rfl ?_ | refine blockA.here ?_ | refine blockA.exit rfl ?_ | (refine And.intro (by omega) ?_) | (refine AW.condT rfl rfl (by first | rfl | assumption) ?_) | (refine AW.condF rfl rfl (by first | rfl | assumption) ?_) | refine AW.dr (id := 10) (by rfl) [0, 1, 2, 3, 4, 5, 6, 7, 8, 9, 10, 11, 12, 13, 14, 15, 16, 17, 18, 19] (by kernel_rfl) (by kernel_rfl) ?_ | ((first | refine AL.ld rfl ?_ | refine AL.al ?_ | refine AL.st rfl rfl ?_ | refine AL.ca rfl ?_ | refine AL.pu rfl ?_ | refine AH.ld rfl ?_ | refine AH.al ?_ | refine AH.stN rfl rfl (by kernel_rfl) ?_ | refine AH.pu rfl rfl ?_); simp (disch := omega) only [push_cast, ↓reduceIte, reduceCtorEq, Nat.reduceAdd, Nat.reduceMul, Nat.reduceLeDiff, Nat.reduceLT, Nat.reduceSub, Int.reduceNe, Int.reduceEq, Int.reduceLE, Int.reduceLT, Int.reduceToNat, tn_add, l1, l2, hlen, w_i64, Int.toNat_natCast, hR2.get, hR3.get, hR2.room, hR3.room, hR2.spl, hR3.spl, Option.some.injEq, exists_eq_left', List.set_set, List.length_set, Blk.put, Blk.ours, Blk.cells])))
    refine ⟨rfl, m - 1, by omega, i + 1, rfl, by omega, by omega, by omega, k', ?_, swap ys i (a + o), hR4, ?_, hP.trans (PermOn.swap (by omega) (by omega) (by omega) (by omega) (by omega))⟩
    · exact ⟨by rw [List.getElem?_set_ne (by omega)]; exact hsk2.get⟩
    · exact (hF2.trans (Fr.set M5 b _)).cut (by intro x hx hlt; simp at hx ⊢; omega)
  · (repeat (first | refine st ?_ | refine ADL.hd rfl ?_ | refine blockA.here ?_ | refine blockA.exit rfl ?_ | (refine And.intro (by omega) ?_) | (refine AW.condT rfl rfl (by first | rfl | assumption) ?_) | (refine AW.condF rfl rfl (by first | rfl | assumption) ?_) | refine AW.dr (id := 10) (by rfl) [0, 1, 2, 3, 4, 5, 6, 7, 8, 9, 10, 11, 12, 13, 14, 15, 16, 17, 18, 19] (by kernel_rfl) (by kernel_rfl) ?_ | ((first | refine AL.ld rfl ?_ | refine AL.al ?_ | refine AL.st rfl rfl ?_ | refine AL.ca rfl ?_ | refine AL.pu rfl ?_ | refine AH.ld rfl ?_ | refine AH.al ?_ | refine AH.stN rfl rfl (by kernel_rfl) ?_ | refine AH.pu rfl rfl ?_); simp (disch := omega) only [push_cast, ↓reduceIte, reduceCtorEq, Nat.reduceAdd, Nat.reduceMul, Nat.reduceLeDiff, Nat.reduceLT, Nat.reduceSub, Int.reduceNe, Int.reduceEq, Int.reduceLE, Int.reduceLT, Int.reduceToNat])))
    ((first | refine retA.ret (by rfl) ?_ | refine retA.normal (by rfl) ?_); simp (disch := omega) only [push_cast, ↓reduceIte, reduceCtorEq, Nat.reduceAdd, Nat.reduceMul, Nat.reduceLeDiff, Nat.reduceLT, Nat.reduceSub, Int.reduceNe, Int.reduceEq, Int.reduceLE, Int.reduceLT, Int.reduceToNat])
    exact ⟨ys, hR, hF, hP⟩

end Go.Proofs.Ytbjipdmbdabniaa.Ax
