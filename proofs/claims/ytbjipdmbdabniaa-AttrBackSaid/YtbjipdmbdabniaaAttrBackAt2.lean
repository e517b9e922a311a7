/- Contracts of functions over the abstract machine. No conditions: lemmas alone. -/
import Derived.Test.YtbjipdmbdabniaaAttrBackLibD
import Derived.Test.YtbjipdmbdabniaaAttrBackAt1
namespace Go.Proofs.Ytbjipdmbdabniaa.Ax
open Go Go.RowKit
set_option linter.unusedVariables false
set_option linter.unusedSimpArgs false
set_option maxRecDepth 100000
set_option maxHeartbeats 20000000
attribute [local irreducible] thenA blockA scopeA retA AL AW AD ADL AH clrK CallA apure aload bload appK ptrK fnK ares szOk planOk okOps
/-- A piece of what v reads. -/
structure Pc (M : Mem) (v w : Value) (ys : List Int) : Prop where
  sl : Sl M w 1 (ints .u8 ys)
  blk : ∀ b ∈ blkOf w, b ∈ blkOf v
theorem Pc.keep {M M' : Mem} {v w : Value} {ys : List Int} {X : List Nat} (h : Pc M v w ys) (f : Fr M M' X) (hx : ∀ b ∈ blkOf v, b ∉ X) : Pc M' v w ys := ⟨h.sl.keep f (fun b hb => hx b (h.blk b hb)), h.blk⟩
theorem Sl.pcFrom {M : Mem} {v : Value} {xs : List Int} (h : Sl M v 1 (ints .u8 xs)) (k : Nat) (hk : k ≤ xs.length) : ∃ w, aslice v 1 (some (.int .i64 (k : Int))) none none = some w ∧ Pc M v w (xs.drop k) := by
  obtain ⟨w, h1, h2, h3⟩ := h.from k (by rw [h.lnI]; exact hk)
  exact ⟨w, h1, by rw [Nat.mul_one, ints_drop] at h2; exact h2, h3⟩
theorem Sl.pcTo {M : Mem} {v : Value} {xs : List Int} (h : Sl M v 1 (ints .u8 xs)) (k : Nat) (hk : k ≤ xs.length) : ∃ w, aslice v 1 none (some (.int .i64 (k : Int))) none = some w ∧ Pc M v w (xs.take k) := by
  obtain ⟨w, h1, h2, h3⟩ := h.to k (by rw [h.lnI]; exact hk)
  exact ⟨w, h1, by rw [Nat.mul_one, ints_take] at h2; exact h2, h3⟩
theorem Sl.pcMid {M : Mem} {v : Value} {xs : List Int} (h : Sl M v 1 (ints .u8 xs)) (l r : Nat) (hl : l ≤ r) (hr : r ≤ xs.length) : ∃ w, aslice v 1 (some (.int .i64 (l : Int))) (some (.int .i64 (r : Int))) none = some w ∧ Pc M v w ((xs.drop l).take (r - l)) := by
  obtain ⟨w, h1, h2, h3⟩ := h.mid l r hl (by rw [h.lnI]; exact hr)
  exact ⟨w, h1, by rw [Nat.mul_one, Nat.mul_one, ints_drop, ints_take] at h2; exact h2, h3⟩
theorem cut_spec (v : Value) (xs : List Int) (M : Mem) (hv : Sl M v 1 (ints .u8 xs)) (h0 : xs ≠ []) (hx : xs.length ≤ 100000) (hb : ∀ x ∈ xs, 0 ≤ x ∧ x ≤ 255) : CallA Try.prog 19 [v] M fun r M' => M' = M ∧
    ((cutP xs ∧ ∃ w1 w2, r = .tuple ⟨[.int .u8 (xs.getD 0 0), .int .u8 (xs.getD 1 0), w1, w2, .bool true]⟩ ∧ Pc M v w1 ((xs.drop (headP xs)).take (sizeP xs)) ∧ Pc M v w2 (xs.drop (headP xs + sizeP xs))) ∨
     (¬ cutP xs ∧ r = .tuple ⟨[.int .u8 0, .int .u8 0, .slice none 0 0, .slice none 0 0, .bool false]⟩)) := by
  have hs := hv.isSl
  have hn := hv.lnI
  have hld := fun i h1 => hv.ldN (P := Try.prog) (ty := 5) (i := i) (by kernel_rfl) h1
  have hl0 := fun h1 => hv.ld0 (P := Try.prog) (ty := 5) (by kernel_rfl) h1
  have hp : 0 < xs.length := List.length_pos_iff.2 h0
  have ha := and16 (getD_byte hb 0)
  have hsz := hv.sz
  have hbl := hv.blks
  have b0 := getD_byte hb 0
  have b2 := getD_byte hb 2
  have b3 := getD_byte hb 3
  have s8 : (2 : Int) ^ min 8 IntKind.i64.bits = 256 := by decide
  obtain ⟨q, hq⟩ : ∃ q, xs.getD 0 0 / 16 % 2 * 16 = q := ⟨_, rfl⟩
  by_cases h16 : xs.getD 0 0 / 16 % 2 = 1
  · have e1 : headP xs = 4 := by unfold headP; rw [if_pos h16]
    have e2 : sizeP xs = (xs.getD 2 0 * 256 + xs.getD 3 0).toNat := by unfold sizeP; rw [if_pos h16]
    have hq1 : decide (xs.getD 0 0 / 16 % 2 * 16 = 0) = false := decide_eq_false (by omega)
    have or1 := or64 b3 b2
    have b31 := b3.1
    have b32 := b3.2
    have b21 := b2.1
    have b22 := b2.2
    obtain ⟨z, hz⟩ : ∃ z : Nat, xs.getD 2 0 * 256 + xs.getD 3 0 = z := ⟨(xs.getD 2 0 * 256 + xs.getD 3 0).toNat, by omega⟩
    have e3 : sizeP xs = z := by omega
    have e43 : ((4 : Int) - 1).toNat = 3 := rfl
    by_cases h4 : 4 ≤ xs.length
    · have hlt : decide ((xs.length : Int) < 4) = false := decide_eq_false (by omega)
      by_cases hc : 4 + z ≤ xs.length
      · obtain ⟨w1, hw1, p1⟩ := hv.pcMid 4 (4 + z) (by omega) hc
        obtain ⟨w2, hw2, p2⟩ := hv.pcFrom (4 + z) hc
        have hw1' : aslice v 1 (some (.int .i64 4)) (some (.int .i64 (4 + (z : Int)))) none = some w1 := hw1
        have hw2' : aslice v 1 (some (.int .i64 (4 + (z : Int)))) none none = some w2 := hw2
        have hlt2 : decide ((xs.length : Int) - 4 < z) = false := decide_eq_false (by omega)
        rw [Nat.add_sub_cancel_left] at p1
        (refine CallA.of_body Try.func19 rfl (by rfl) ?_; simp only [Try.ntmps19, List.length_cons, List.length_nil, List.replicate, List.cons_append, List.nil_append, Nat.reduceSub, Nat.reduceAdd])
        (repeat (first | refine st ?_ | refine ADL.hd rfl ?_ | (refine And.intro (by omega) ?_) | (refine AW.condT rfl rfl (by first | rfl | assumption) ?_) | (refine AW.condF rfl rfl (by first | rfl | assumption) ?_) | refine AW.dr (id := 11) (by rfl) [0, 1, 2, 3, 4, 5, 6, 7, 8, 9, 10, 11, 12, 13, 14, 15, 16, 17, 18, 19, 20, 21] (by kernel_rfl) (by kernel_rfl) ?_ | ((first | refine AL.ld rfl ?_ | refine AL.slW (by kernel_rfl) rfl ?_ | refine AL.pu rfl ?_ | refine AH.ld rfl ?_ | refine AH.slW (by kernel_rfl) rfl ?_ | refine AH.pu rfl rfl ?_); simp (disch := omega) only [Option.some.injEq, TypeDesc.slice.injEq, exists_eq_left', push_cast, ↓reduceIte, reduceCtorEq, Nat.reduceAdd, Nat.reduceMul, Nat.reduceLeDiff, Nat.reduceLT, Nat.reduceSub, Int.reduceNe, Int.reduceEq, Int.reduceLE, Int.reduceLT, Int.reduceToNat, hs, hn, hld, hl0, ha, hq1, hlt, hlt2, w_i64, s8, or1, e43, hz, hw1', hw2', hsz, Bool.not_false, Bool.not_true, Option.map_some, Option.map_none])))
        ((first | refine retA.ret (by rfl) ?_ | refine retA.normal (by rfl) ?_); simp (disch := omega) only [push_cast, ↓reduceIte, reduceCtorEq, Nat.reduceAdd, Nat.reduceMul, Nat.reduceLeDiff, Nat.reduceLT, Nat.reduceSub, Int.reduceNe, Int.reduceEq, Int.reduceLE, Int.reduceLT, Int.reduceToNat])
        refine .inl ⟨⟨by omega, by omega⟩, w1, w2, rfl, ?_, ?_⟩
        · rw [e1, e3]; exact p1
        · rw [e1, e3]; exact p2
      · have hlt2 : decide ((xs.length : Int) - 4 < z) = true := decide_eq_true (by omega)
        (refine CallA.of_body Try.func19 rfl (by rfl) ?_; simp only [Try.ntmps19, List.length_cons, List.length_nil, List.replicate, List.cons_append, List.nil_append, Nat.reduceSub, Nat.reduceAdd])
        (repeat (first | refine st ?_ | refine ADL.hd rfl ?_ | (refine And.intro (by omega) ?_) | (refine AW.condT rfl rfl (by first | rfl | assumption) ?_) | (refine AW.condF rfl rfl (by first | rfl | assumption) ?_) | refine AW.dr (id := 11) (by rfl) [0, 1, 2, 3, 4, 5, 6, 7, 8, 9, 10, 11, 12, 13, 14, 15, 16, 17, 18, 19, 20, 21] (by kernel_rfl) (by kernel_rfl) ?_ | ((first | refine AL.ld rfl ?_ | refine AL.slW (by kernel_rfl) rfl ?_ | refine AL.pu rfl ?_ | refine AH.ld rfl ?_ | refine AH.slW (by kernel_rfl) rfl ?_ | refine AH.pu rfl rfl ?_); simp (disch := omega) only [Option.some.injEq, TypeDesc.slice.injEq, exists_eq_left', push_cast, ↓reduceIte, reduceCtorEq, Nat.reduceAdd, Nat.reduceMul, Nat.reduceLeDiff, Nat.reduceLT, Nat.reduceSub, Int.reduceNe, Int.reduceEq, Int.reduceLE, Int.reduceLT, Int.reduceToNat, hs, hn, hld, hl0, ha, hq1, hlt, hlt2, w_i64, s8, or1, e43, hz, hsz, Bool.not_false, Bool.not_true, Option.map_some, Option.map_none])))
        ((first | refine retA.ret (by rfl) ?_ | refine retA.normal (by rfl) ?_); simp (disch := omega) only [push_cast, ↓reduceIte, reduceCtorEq, Nat.reduceAdd, Nat.reduceMul, Nat.reduceLeDiff, Nat.reduceLT, Nat.reduceSub, Int.reduceNe, Int.reduceEq, Int.reduceLE, Int.reduceLT, Int.reduceToNat])
        exact .inr fun hc' => hc (by have := hc'.2; omega)
    · have hlt : decide ((xs.length : Int) < 4) = true := decide_eq_true (by omega)
      (refine CallA.of_body Try.func19 rfl (by rfl) ?_; simp only [Try.ntmps19, List.length_cons, List.length_nil, List.replicate, List.cons_append, List.nil_append, Nat.reduceSub, Nat.reduceAdd])
      (repeat (first | refine st ?_ | refine ADL.hd rfl ?_ | (refine And.intro (by omega) ?_) | (refine AW.condT rfl rfl (by first | rfl | assumption) ?_) | (refine AW.condF rfl rfl (by first | rfl | assumption) ?_) | refine AW.dr (id := 11) (by rfl) [0, 1, 2, 3, 4, 5, 6, 7, 8, 9, 10, 11, 12, 13, 14, 15, 16, 17, 18, 19, 20, 21] (by kernel_rfl) (by kernel_rfl) ?_ | ((first | refine AL.ld rfl ?_ | refine AL.slW (by kernel_rfl) rfl ?_ | refine AL.pu rfl ?_ | refine AH.ld rfl ?_ | refine AH.slW (by kernel_rfl) rfl ?_ | refine AH.pu rfl rfl ?_); simp (disch := omega) only [Option.some.injEq, TypeDesc.slice.injEq, exists_eq_left', push_cast, ↓reduceIte, reduceCtorEq, Nat.reduceAdd, Nat.reduceMul, Nat.reduceLeDiff, Nat.reduceLT, Nat.reduceSub, Int.reduceNe, Int.reduceEq, Int.reduceLE, Int.reduceLT, Int.reduceToNat, hs, hn, hld, hl0, ha, hq1, hlt, w_i64, Bool.not_false, Bool.not_true])))
      ((first | refine retA.ret (by rfl) ?_ | refine retA.normal (by rfl) ?_); simp (disch := omega) only [push_cast, ↓reduceIte, reduceCtorEq, Nat.reduceAdd, Nat.reduceMul, Nat.reduceLeDiff, Nat.reduceLT, Nat.reduceSub, Int.reduceNe, Int.reduceEq, Int.reduceLE, Int.reduceLT, Int.reduceToNat])
      exact .inr fun hc' => h4 (by have := hc'.1; omega)
  · have e1 : headP xs = 3 := by unfold headP; rw [if_neg h16]
    have e2 : sizeP xs = (xs.getD 2 0).toNat := by unfold sizeP; rw [if_neg h16]
    have hq1 : decide (xs.getD 0 0 / 16 % 2 * 16 = 0) = true := decide_eq_true (by omega)
    have b21 := b2.1
    have b22 := b2.2
    obtain ⟨z, hz⟩ : ∃ z : Nat, xs.getD 2 0 = z := ⟨(xs.getD 2 0).toNat, by omega⟩
    have e3 : sizeP xs = z := by omega
    have e32 : ((3 : Int) - 1).toNat = 2 := rfl
    by_cases h4 : 3 ≤ xs.length
    · have hlt : decide ((xs.length : Int) < 3) = false := decide_eq_false (by omega)
      by_cases hc : 3 + z ≤ xs.length
      · obtain ⟨w1, hw1, p1⟩ := hv.pcMid 3 (3 + z) (by omega) hc
        obtain ⟨w2, hw2, p2⟩ := hv.pcFrom (3 + z) hc
        have hw1' : aslice v 1 (some (.int .i64 3)) (some (.int .i64 (3 + (z : Int)))) none = some w1 := hw1
        have hw2' : aslice v 1 (some (.int .i64 (3 + (z : Int)))) none none = some w2 := hw2
        have hlt2 : decide ((xs.length : Int) - 3 < z) = false := decide_eq_false (by omega)
        rw [Nat.add_sub_cancel_left] at p1
        (refine CallA.of_body Try.func19 rfl (by rfl) ?_; simp only [Try.ntmps19, List.length_cons, List.length_nil, List.replicate, List.cons_append, List.nil_append, Nat.reduceSub, Nat.reduceAdd])
        (repeat (first | refine st ?_ | refine ADL.hd rfl ?_ | (refine And.intro (by omega) ?_) | (refine AW.condT rfl rfl (by first | rfl | assumption) ?_) | (refine AW.condF rfl rfl (by first | rfl | assumption) ?_) | refine AW.dr (id := 11) (by rfl) [0, 1, 2, 3, 4, 5, 6, 7, 8, 9, 10, 11, 12, 13, 14, 15, 16, 17, 18, 19, 20, 21] (by kernel_rfl) (by kernel_rfl) ?_ | ((first | refine AL.ld rfl ?_ | refine AL.slW (by kernel_rfl) rfl ?_ | refine AL.pu rfl ?_ | refine AH.ld rfl ?_ | refine AH.slW (by kernel_rfl) rfl ?_ | refine AH.pu rfl rfl ?_); simp (disch := omega) only [Option.some.injEq, TypeDesc.slice.injEq, exists_eq_left', push_cast, ↓reduceIte, reduceCtorEq, Nat.reduceAdd, Nat.reduceMul, Nat.reduceLeDiff, Nat.reduceLT, Nat.reduceSub, Int.reduceNe, Int.reduceEq, Int.reduceLE, Int.reduceLT, Int.reduceToNat, hs, hn, hld, hl0, ha, hq1, hlt, hlt2, w_i64, e32, hz, hw1', hw2', hsz, Bool.not_false, Bool.not_true, Option.map_some, Option.map_none])))
        ((first | refine retA.ret (by rfl) ?_ | refine retA.normal (by rfl) ?_); simp (disch := omega) only [push_cast, ↓reduceIte, reduceCtorEq, Nat.reduceAdd, Nat.reduceMul, Nat.reduceLeDiff, Nat.reduceLT, Nat.reduceSub, Int.reduceNe, Int.reduceEq, Int.reduceLE, Int.reduceLT, Int.reduceToNat])
        refine .inl ⟨⟨by omega, by omega⟩, w1, w2, rfl, ?_, ?_⟩
        · rw [e1, e3]; exact p1
        · rw [e1, e3]; exact p2
      · have hlt2 : decide ((xs.length : Int) - 3 < z) = true := decide_eq_true (by omega)
        (refine CallA.of_body Try.func19 rfl (by rfl) ?_; simp only [Try.ntmps19, List.length_cons, List.length_nil, List.replicate, List.cons_append, List.nil_append, Nat.reduceSub, Nat.reduceAdd])
        (repeat (first | refine st ?_ | refine ADL.hd rfl ?_ | (refine And.intro (by omega) ?_) | (refine AW.condT rfl rfl (by first | rfl | assumption) ?_) | (refine AW.condF rfl rfl (by first | rfl | assumption) ?_) | refine AW.dr (id := 11) (by rfl) [0, 1, 2, 3, 4, 5, 6, 7, 8, 9, 10, 11, 12, 13, 14, 15, 16, 17, 18, 19, 20, 21] (by kernel_rfl) (by kernel_rfl) ?_ | ((first | refine AL.ld rfl ?_ | refine AL.slW (by kernel_rfl) rfl ?_ | refine AL.pu rfl ?_ | refine AH.ld rfl ?_ | refine AH.slW (by kernel_rfl) rfl ?_ | refine AH.pu rfl rfl ?_); simp (disch := omega) only [Option.some.injEq, TypeDesc.slice.injEq, exists_eq_left', push_cast, ↓reduceIte, reduceCtorEq, Nat.reduceAdd, Nat.reduceMul, Nat.reduceLeDiff, Nat.reduceLT, Nat.reduceSub, Int.reduceNe, Int.reduceEq, Int.reduceLE, Int.reduceLT, Int.reduceToNat, hs, hn, hld, hl0, ha, hq1, hlt, hlt2, w_i64, e32, hz, hsz, Bool.not_false, Bool.not_true, Option.map_some, Option.map_none])))
        ((first | refine retA.ret (by rfl) ?_ | refine retA.normal (by rfl) ?_); simp (disch := omega) only [push_cast, ↓reduceIte, reduceCtorEq, Nat.reduceAdd, Nat.reduceMul, Nat.reduceLeDiff, Nat.reduceLT, Nat.reduceSub, Int.reduceNe, Int.reduceEq, Int.reduceLE, Int.reduceLT, Int.reduceToNat])
        exact .inr fun hc' => hc (by have := hc'.2; omega)
    · have hlt : decide ((xs.length : Int) < 3) = true := decide_eq_true (by omega)
      (refine CallA.of_body Try.func19 rfl (by rfl) ?_; simp only [Try.ntmps19, List.length_cons, List.length_nil, List.replicate, List.cons_append, List.nil_append, Nat.reduceSub, Nat.reduceAdd])
      (repeat (first | refine st ?_ | refine ADL.hd rfl ?_ | (refine And.intro (by omega) ?_) | (refine AW.condT rfl rfl (by first | rfl | assumption) ?_) | (refine AW.condF rfl rfl (by first | rfl | assumption) ?_) | refine AW.dr (id := 11) (by rfl) [0, 1, 2, 3, 4, 5, 6, 7, 8, 9, 10, 11, 12, 13, 14, 15, 16, 17, 18, 19, 20, 21] (by kernel_rfl) (by kernel_rfl) ?_ | ((first | refine AL.ld rfl ?_ | refine AL.slW (by kernel_rfl) rfl ?_ | refine AL.pu rfl ?_ | refine AH.ld rfl ?_ | refine AH.slW (by kernel_rfl) rfl ?_ | refine AH.pu rfl rfl ?_); simp (disch := omega) only [Option.some.injEq, TypeDesc.slice.injEq, exists_eq_left', push_cast, ↓reduceIte, reduceCtorEq, Nat.reduceAdd, Nat.reduceMul, Nat.reduceLeDiff, Nat.reduceLT, Nat.reduceSub, Int.reduceNe, Int.reduceEq, Int.reduceLE, Int.reduceLT, Int.reduceToNat, hs, hn, hld, hl0, ha, hq1, hlt, w_i64, Bool.not_false, Bool.not_true])))
      ((first | refine retA.ret (by rfl) ?_ | refine retA.normal (by rfl) ?_); simp (disch := omega) only [push_cast, ↓reduceIte, reduceCtorEq, Nat.reduceAdd, Nat.reduceMul, Nat.reduceLeDiff, Nat.reduceLT, Nat.reduceSub, Int.reduceNe, Int.reduceEq, Int.reduceLE, Int.reduceLT, Int.reduceToNat])
      exact .inr fun hc' => h4 (by have := hc'.1; omega)

end Go.Proofs.Ytbjipdmbdabniaa.Ax
