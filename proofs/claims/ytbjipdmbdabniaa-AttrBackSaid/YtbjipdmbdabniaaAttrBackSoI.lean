/- Contracts of functions over the abstract machine. No conditions: lemmas alone. -/
import Derived.Test.YtbjipdmbdabniaaAttrBackLibD
import Derived.Test.YtbjipdmbdabniaaAttrBackSoP
namespace Go.Proofs.Ytbjipdmbdabniaa.Ax
open Go Go.RowKit
set_option linter.unusedVariables false
set_option linter.unusedSimpArgs false
set_option maxRecDepth 100000
set_option maxHeartbeats 20000000
attribute [local irreducible] thenA blockA scopeA retA AL AW AD ADL AH clrK CallA apure aload bload appK ptrK fnK ares szOk planOk okOps
def strOf (f : Func) : ByteArray := match f.body with
  | some b => strC b
  | none => .empty
where
  strC : Code → ByteArray
  | .seq x y => if (strC y).size = 0 then strC x else strC y
  | .region _ ops _ => ops.toList.foldl (fun s o => match o.op with | .index _ (.const (.string s')) _ => s' | _ => s) .empty
  | _ => .empty
theorem tab_all : ((List.range 256).all fun q => match (strOf Try.f62)[q]? with
    | some b => decide (b.toNat ≤ 8) && (q == 0 || decide (2 ^ b.toNat ≤ 2 * q))
    | none => false) = true := by kernel_rfl
theorem tab_idx (q : Nat) (h : q < 256) : ∃ k : Nat, aindexX Try.prog (some .string) (.string (strOf Try.f62)) (.int .u8 q) = some (.int .u8 k) ∧ k ≤ 8 ∧ (0 < q → 2 ^ k ≤ 2 * q) := by
  have h1 := List.all_eq_true.1 tab_all q (List.mem_range.2 h)
  cases hb : (strOf Try.f62)[q]? with
  | none => rw [hb] at h1; cases h1
  | some b =>
    rw [hb] at h1
    simp only [Bool.and_eq_true, decide_eq_true_eq, Bool.or_eq_true, beq_iff_eq] at h1
    refine ⟨b.toNat, ?_, h1.1, fun h0 => h1.2.resolve_left (by omega)⟩
    show (if (0 : Int) ≤ (q : Int) then match (strOf Try.f62)[(q : Int).toNat]? with
        | some b => some (Value.int .u8 b.toNat)
        | none => none
      else none) = _
    rw [if_pos (by omega)]
    simp only [Int.toNat_natCast, hb]
theorem len64_spec (n : Nat) (M : Mem) (hn : n ≤ 1000000000) : CallA Try.prog 62 [.int .u64 n] M fun v M' => ∃ k : Nat, v = .int .i64 k ∧ k ≤ 32 ∧ (0 < n → 2 ^ k ≤ 2 * n) ∧ M' = M := by
  have f0 : decide ((n : Int) ≥ 4294967296) = false := decide_eq_false (by omega)
  have s16 : (2 : Int) ^ min 16 IntKind.u64.bits = 65536 := by decide
  have s8 : (2 : Int) ^ min 8 IntKind.u64.bits = 256 := by decide
  (refine CallA.of_body Try.func62 rfl (by rfl) ?_; simp only [Try.ntmps62, List.length_cons, List.length_nil, List.replicate, List.cons_append, List.nil_append, Nat.reduceSub, Nat.reduceAdd])
  (repeat (first | refine st ?_ | (refine And.intro (by omega) ?_) | (refine AW.condT rfl rfl (by first | rfl | assumption) ?_) | (refine AW.condF rfl rfl (by first | rfl | assumption) ?_) | ((first | refine AL.pu rfl ?_); simp (disch := omega) only [push_cast, ↓reduceIte, reduceCtorEq, Nat.reduceAdd, Nat.reduceMul, Nat.reduceLeDiff, Nat.reduceLT, Nat.reduceSub, Int.reduceNe, Int.reduceEq, Int.reduceLE, Int.reduceLT, Int.reduceToNat, f0])))
  refine AW.joinF [0, 2, 9, 10, 11, 12] (fun g M' => M' = M ∧ ∃ q : Nat, g 0 = .int .u64 q ∧ ∃ s : Nat, g 2 = .int .i64 s ∧ q < 65536 ∧ s ≤ 16 ∧ (0 < n → 0 < q) ∧ 2 ^ s * q ≤ n) ?_ ?_
  · ((first | refine AL.gu rfl (fun h1 => ?_) (fun h1 => ?_) | refine AW.condS rfl rfl (fun h1 => ?_) (fun h1 => ?_)) <;> (try (have h1' := h1; simp only [Bool.not_eq_true', Bool.not_eq_false', Bool.not_true, Bool.not_false, decide_eq_true_eq, decide_eq_false_iff_not, Classical.not_not, Int.not_lt, Int.not_le, gt_iff_lt, ge_iff_le, beq_iff_eq] at h1')))
    · obtain ⟨q, hq, hq2⟩ : ∃ q : Nat, (n : Int) / 65536 = q ∧ q = n / 65536 := ⟨n / 65536, by omega, rfl⟩
      (repeat (first | refine st ?_ | (refine And.intro (by omega) ?_) | (refine AW.condT rfl rfl (by first | rfl | assumption) ?_) | (refine AW.condF rfl rfl (by first | rfl | assumption) ?_) | ((first | refine AL.pu rfl ?_); simp (disch := omega) only [push_cast, ↓reduceIte, reduceCtorEq, Nat.reduceAdd, Nat.reduceMul, Nat.reduceLeDiff, Nat.reduceLT, Nat.reduceSub, Int.reduceNe, Int.reduceEq, Int.reduceLE, Int.reduceLT, Int.reduceToNat, s16, fdiv_in, hq, w_i64])))
      exact ⟨rfl, rfl, q, rfl, 16, rfl, by omega, by omega, by omega, by omega⟩
    · (repeat (first | refine st ?_ | (refine And.intro (by omega) ?_) | (refine AW.condT rfl rfl (by first | rfl | assumption) ?_) | (refine AW.condF rfl rfl (by first | rfl | assumption) ?_) | ((first | refine AL.pu rfl ?_); simp (disch := omega) only [push_cast, ↓reduceIte, reduceCtorEq, Nat.reduceAdd, Nat.reduceMul, Nat.reduceLeDiff, Nat.reduceLT, Nat.reduceSub, Int.reduceNe, Int.reduceEq, Int.reduceLE, Int.reduceLT, Int.reduceToNat])))
      exact ⟨rfl, rfl, n, rfl, 0, rfl, by omega, by omega, by omega, by omega⟩
  rintro g1 M1 ⟨rfl, q, h0, s, h2, hq1, hq2, hq3, hq4⟩
  simp (disch := omega) only [push_cast, ↓reduceIte, reduceCtorEq, Nat.reduceAdd, Nat.reduceMul, Nat.reduceLeDiff, Nat.reduceLT, Nat.reduceSub, Int.reduceNe, Int.reduceEq, Int.reduceLE, Int.reduceLT, Int.reduceToNat, h0, h2]
  (repeat (first | refine st ?_ | (refine And.intro (by omega) ?_) | (refine AW.condT rfl rfl (by first | rfl | assumption) ?_) | (refine AW.condF rfl rfl (by first | rfl | assumption) ?_) | ((first | refine AL.pu rfl ?_); simp (disch := omega) only [push_cast, ↓reduceIte, reduceCtorEq, Nat.reduceAdd, Nat.reduceMul, Nat.reduceLeDiff, Nat.reduceLT, Nat.reduceSub, Int.reduceNe, Int.reduceEq, Int.reduceLE, Int.reduceLT, Int.reduceToNat])))
  refine AW.joinF [0, 2, 15, 16, 17, 18] (fun g M' => M' = M1 ∧ ∃ q : Nat, g 0 = .int .u64 q ∧ ∃ s : Nat, g 2 = .int .i64 s ∧ q < 256 ∧ s ≤ 24 ∧ (0 < n → 0 < q) ∧ 2 ^ s * q ≤ n) ?_ ?_
  · ((first | refine AL.gu rfl (fun h1 => ?_) (fun h1 => ?_) | refine AW.condS rfl rfl (fun h1 => ?_) (fun h1 => ?_)) <;> (try (have h1' := h1; simp only [Bool.not_eq_true', Bool.not_eq_false', Bool.not_true, Bool.not_false, decide_eq_true_eq, decide_eq_false_iff_not, Classical.not_not, Int.not_lt, Int.not_le, gt_iff_lt, ge_iff_le, beq_iff_eq] at h1')))
    · obtain ⟨u, hu, hu2⟩ : ∃ u : Nat, (q : Int) / 256 = u ∧ u = q / 256 := ⟨q / 256, by omega, rfl⟩
      (repeat (first | refine st ?_ | (refine And.intro (by omega) ?_) | (refine AW.condT rfl rfl (by first | rfl | assumption) ?_) | (refine AW.condF rfl rfl (by first | rfl | assumption) ?_) | ((first | refine AL.pu rfl ?_); simp (disch := omega) only [push_cast, ↓reduceIte, reduceCtorEq, Nat.reduceAdd, Nat.reduceMul, Nat.reduceLeDiff, Nat.reduceLT, Nat.reduceSub, Int.reduceNe, Int.reduceEq, Int.reduceLE, Int.reduceLT, Int.reduceToNat, s8, fdiv_in, hu, w_i64])))
      refine ⟨rfl, rfl, u, rfl, s + 8, rfl, by omega, by omega, by omega, ?_⟩
      refine Nat.le_trans ?_ hq4
      rw [Nat.pow_add, Nat.mul_assoc]
      exact Nat.mul_le_mul_left _ (by omega)
    · (repeat (first | refine st ?_ | (refine And.intro (by omega) ?_) | (refine AW.condT rfl rfl (by first | rfl | assumption) ?_) | (refine AW.condF rfl rfl (by first | rfl | assumption) ?_) | ((first | refine AL.pu rfl ?_); simp (disch := omega) only [push_cast, ↓reduceIte, reduceCtorEq, Nat.reduceAdd, Nat.reduceMul, Nat.reduceLeDiff, Nat.reduceLT, Nat.reduceSub, Int.reduceNe, Int.reduceEq, Int.reduceLE, Int.reduceLT, Int.reduceToNat])))
      exact ⟨rfl, rfl, q, rfl, s, rfl, by omega, by omega, hq3, hq4⟩
  clear h0 h2 hq1 hq2 hq3 hq4
  rintro g2 M2 ⟨rfl, q, h0, s, h2, hq1, hq2, hq3, hq4⟩
  simp (disch := omega) only [push_cast, ↓reduceIte, reduceCtorEq, Nat.reduceAdd, Nat.reduceMul, Nat.reduceLeDiff, Nat.reduceLT, Nat.reduceSub, Int.reduceNe, Int.reduceEq, Int.reduceLE, Int.reduceLT, Int.reduceToNat, h0, h2]
  obtain ⟨k, hk, hk1, hk2⟩ := tab_idx q hq1
  (repeat (first | refine st ?_ | (refine And.intro (by omega) ?_) | (refine AW.condT rfl rfl (by first | rfl | assumption) ?_) | (refine AW.condF rfl rfl (by first | rfl | assumption) ?_) | ((first | refine AL.pu rfl ?_); simp (disch := omega) only [push_cast, ↓reduceIte, reduceCtorEq, Nat.reduceAdd, Nat.reduceMul, Nat.reduceLeDiff, Nat.reduceLT, Nat.reduceSub, Int.reduceNe, Int.reduceEq, Int.reduceLE, Int.reduceLT, Int.reduceToNat, w_u8])))
  refine ⟨_, hk, ?_⟩
  (repeat (first | refine st ?_ | (refine And.intro (by omega) ?_) | (refine AW.condT rfl rfl (by first | rfl | assumption) ?_) | (refine AW.condF rfl rfl (by first | rfl | assumption) ?_) | ((first | refine AL.pu rfl ?_); simp (disch := omega) only [push_cast, ↓reduceIte, reduceCtorEq, Nat.reduceAdd, Nat.reduceMul, Nat.reduceLeDiff, Nat.reduceLT, Nat.reduceSub, Int.reduceNe, Int.reduceEq, Int.reduceLE, Int.reduceLT, Int.reduceToNat, w_i64])))
  ((first | refine retA.ret (by rfl) ?_ | refine retA.normal (by rfl) ?_); simp (disch := omega) only [push_cast, ↓reduceIte, reduceCtorEq, Nat.reduceAdd, Nat.reduceMul, Nat.reduceLeDiff, Nat.reduceLT, Nat.reduceSub, Int.reduceNe, Int.reduceEq, Int.reduceLE, Int.reduceLT, Int.reduceToNat])
  refine ⟨s + k, rfl, by omega, fun h0 => ?_⟩
  rw [Nat.pow_add]
  refine Nat.le_trans (Nat.mul_le_mul_left _ (hk2 (hq3 h0))) ?_
  rw [Nat.mul_left_comm]
  omega
theorem len_spec (n : Nat) (M : Mem) (hn : n ≤ 1000000000) : CallA Try.prog 48 [.int .u64 n] M fun v M' => ∃ k : Nat, v = .int .i64 k ∧ k ≤ 32 ∧ (0 < n → 2 ^ k ≤ 2 * n) ∧ M' = M := by
  (refine CallA.of_body Try.func48 rfl (by rfl) ?_; simp only [Try.ntmps48, List.length_cons, List.length_nil, List.replicate, List.cons_append, List.nil_append, Nat.reduceSub, Nat.reduceAdd])
  (repeat (first | refine st ?_ | (refine And.intro (by omega) ?_) | (refine AW.condT rfl rfl (by first | rfl | assumption) ?_) | (refine AW.condF rfl rfl (by first | rfl | assumption) ?_) | ((first | refine AL.ca rfl ?_ | refine AL.pu rfl ?_); simp (disch := omega) only [push_cast, ↓reduceIte, reduceCtorEq, Nat.reduceAdd, Nat.reduceMul, Nat.reduceLeDiff, Nat.reduceLT, Nat.reduceSub, Int.reduceNe, Int.reduceEq, Int.reduceLE, Int.reduceLT, Int.reduceToNat])))
  refine (len64_spec n M hn).mono ?_
  rintro v M1 ⟨k, rfl, h1, h2, rfl⟩
  (repeat (first | refine st ?_ | (refine And.intro (by omega) ?_) | (refine AW.condT rfl rfl (by first | rfl | assumption) ?_) | (refine AW.condF rfl rfl (by first | rfl | assumption) ?_) | ((first | refine AL.ca rfl ?_ | refine AL.pu rfl ?_); simp (disch := omega) only [push_cast, ↓reduceIte, reduceCtorEq, Nat.reduceAdd, Nat.reduceMul, Nat.reduceLeDiff, Nat.reduceLT, Nat.reduceSub, Int.reduceNe, Int.reduceEq, Int.reduceLE, Int.reduceLT, Int.reduceToNat])))
  ((first | refine retA.ret (by rfl) ?_ | refine retA.normal (by rfl) ?_); simp (disch := omega) only [push_cast, ↓reduceIte, reduceCtorEq, Nat.reduceAdd, Nat.reduceMul, Nat.reduceLeDiff, Nat.reduceLT, Nat.reduceSub, Int.reduceNe, Int.reduceEq, Int.reduceLE, Int.reduceLT, Int.reduceToNat])
  exact ⟨k, rfl, h1, h2⟩
theorem pow_spec (n : Nat) (M : Mem) (hn : n ≤ 1000000000) (h0 : 0 < n) : CallA Try.prog 64 [.int .i64 n] M fun v M' => ∃ m : Nat, v = .int .u64 m ∧ 1 ≤ m ∧ m ≤ 2 * n ∧ M' = M := by
  (refine CallA.of_body Try.func64 rfl (by rfl) ?_; simp only [Try.ntmps64, List.length_cons, List.length_nil, List.replicate, List.cons_append, List.nil_append, Nat.reduceSub, Nat.reduceAdd])
  (repeat (first | refine st ?_ | (refine And.intro (by omega) ?_) | ((first | refine AL.ca rfl ?_ | refine AL.pu rfl ?_); simp (disch := omega) only [push_cast, ↓reduceIte, reduceCtorEq, Nat.reduceAdd, Nat.reduceMul, Nat.reduceLeDiff, Nat.reduceLT, Nat.reduceSub, Int.reduceNe, Int.reduceEq, Int.reduceLE, Int.reduceLT, Int.reduceToNat, w_u64])))
  refine (len_spec n M hn).mono ?_
  rintro v M1 ⟨k, rfl, h1, h2, rfl⟩
  have hk : 2 ^ k ≤ 2 ^ 32 := Nat.pow_le_pow_right (by omega) h1
  have h2' := h2 h0
  have := Nat.two_pow_pos k
  have e : IntKind.u64.wrap (1 * 2 ^ min (k : Int).toNat IntKind.u64.bits) = ((2 ^ k : Nat) : Int) := by
    rw [show min (k : Int).toNat IntKind.u64.bits = k from by show min (k : Int).toNat 64 = k; omega, Int.one_mul]
    have e : ((2 ^ k : Nat) : Int) = 2 ^ k := by simp
    rw [← e]
    exact w_u64 (by omega) (by omega)
  generalize 2 ^ k = m at *
  (repeat (first | refine st ?_ | (refine And.intro (by omega) ?_) | ((first | refine AL.ca rfl ?_ | refine AL.pu rfl ?_); simp (disch := omega) only [push_cast, ↓reduceIte, reduceCtorEq, Nat.reduceAdd, Nat.reduceMul, Nat.reduceLeDiff, Nat.reduceLT, Nat.reduceSub, Int.reduceNe, Int.reduceEq, Int.reduceLE, Int.reduceLT, Int.reduceToNat, e])))
  ((first | refine retA.ret (by rfl) ?_ | refine retA.normal (by rfl) ?_); simp (disch := omega) only [push_cast, ↓reduceIte, reduceCtorEq, Nat.reduceAdd, Nat.reduceMul, Nat.reduceLeDiff, Nat.reduceLT, Nat.reduceSub, Int.reduceNe, Int.reduceEq, Int.reduceLE, Int.reduceLT, Int.reduceToNat])
  exact ⟨m, rfl, by omega, by omega⟩

end Go.Proofs.Ytbjipdmbdabniaa.Ax
