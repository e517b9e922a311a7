/- Contracts of functions over the abstract machine. No conditions: lemmas alone. -/
import Derived.Test.YtbjipdmbdabniaaAttrBackLibD
import Derived.Test.YtbjipdmbdabniaaAttrBackAt2
import Derived.Test.YtbjipdmbdabniaaAttrBackSoO
namespace Go.Proofs.Ytbjipdmbdabniaa.Ax
open Go Go.RowKit
set_option linter.unusedVariables false
set_option linter.unusedSimpArgs false
set_option maxRecDepth 100000
set_option maxHeartbeats 20000000
attribute [local irreducible] thenA blockA scopeA retA AL AW AD ADL AH clrK CallA apure aload bload appK ptrK fnK ares szOk planOk okOps
/-- The numbers of segments; none: they aren't right. -/
def segP : Nat → List Int → Option (List Int)
  | 0, _ => none
  | f + 1, xs => if xs = [] then some [] else if xs.length < 2 ∨ xs.getD 0 0 ≠ 2 ∨ xs.getD 1 0 = 0 ∨ xs.length - 2 < 4 * (xs.getD 1 0).toNat then none
      else (segP f (xs.drop (2 + 4 * (xs.getD 1 0).toNat))).map fun l => words (xs.drop 2) (xs.getD 1 0).toNat ++ l
def pathP (xs : List Int) : Option (List Int) := (segP (xs.length + 1) xs).bind fun l => if l.length ≤ 255 ∧ 0 ∉ l then some l else none
theorem segP_fuel : ∀ {f g : Nat} {xs : List Int}, xs.length < f → xs.length < g → segP f xs = segP g xs
  | 0, _, _, h, _ => absurd h (Nat.not_lt_zero _)
  | _, 0, _, _, h => absurd h (Nat.not_lt_zero _)
  | f + 1, g + 1, xs, h1, h2 => by
    unfold segP
    split
    · rfl
    · rename_i hne
      split
      · rfl
      · have hp : 0 < xs.length := List.length_pos_iff.2 hne
        rw [segP_fuel (f := f) (g := g) (by rw [List.length_drop]; omega) (by rw [List.length_drop]; omega)]
theorem words_take (xs : List Int) (k : Nat) : words (xs.take (4 * k)) k = words xs k := by
  unfold words
  apply List.map_congr_left
  intro j hj
  have hj := List.mem_range.1 hj
  unfold wordAt
  have h : ∀ i, i < 4 * k → (xs.take (4 * k)).getD i 0 = xs.getD i 0 := fun i hi => by
    rw [List.getD_eq_getElem?_getD, List.getD_eq_getElem?_getD, List.getElem?_take, if_pos hi]
  rw [h _ (by omega), h _ (by omega), h _ (by omega), h _ (by omega)]
theorem pathP_none {xs ys out : List Int} (h : segP (xs.length + 1) xs = (segP (ys.length + 1) ys).map fun l => out ++ l) (h2 : segP (ys.length + 1) ys = none) : pathP xs = none := by
  unfold pathP; rw [h, h2]; rfl
theorem segP_bad {ys : List Int} (h : ys ≠ []) (h2 : ys.length < 2 ∨ ys.getD 0 0 ≠ 2 ∨ ys.getD 1 0 = 0 ∨ ys.length - 2 < 4 * (ys.getD 1 0).toNat) : segP (ys.length + 1) ys = none := by
  unfold segP; rw [if_neg h, if_pos h2]
theorem segP_good {ys : List Int} {q : Nat} (h : ys ≠ []) (h1 : 2 ≤ ys.length) (h2 : ys.getD 0 0 = 2) (h3 : ys.getD 1 0 = q) (h4 : 0 < q) (h5 : 2 + 4 * q ≤ ys.length) : segP (ys.length + 1) ys = (segP ((ys.drop (2 + 4 * q)).length + 1) (ys.drop (2 + 4 * q))).map fun l => words (ys.drop 2) q ++ l := by
  have e : (ys.getD 1 0).toNat = q := by omega
  rw [segP, if_neg h, if_neg (by omega), e, segP_fuel (g := (ys.drop (2 + 4 * q)).length + 1) (by rw [List.length_drop]; omega) (by omega)]
theorem seg_spec (v : Value) (xs : List Int) (M : Mem) (hv : Sl M v 1 (ints .u8 xs)) (hx : xs.length ≤ 100000) (hb : ∀ x ∈ xs, 0 ≤ x ∧ x ≤ 255) : CallA Try.prog 34 [v] M fun r M' => Fr M M' [] ∧ ∃ w d, r = .tuple ⟨[w, .bool d]⟩ ∧
    ((∃ l, pathP xs = some l ∧ d = true ∧ Sl M' w 1 (ints .u32 l) ∧ ∀ b ∈ blkOf w, M.length ≤ b) ∨ (pathP xs = none ∧ d = false ∧ ∃ l, Sl M' w 1 (ints .u32 l) ∧ ∀ b ∈ blkOf w, M.length ≤ b)) := by
  (refine CallA.of_body Try.func34 rfl (by rfl) ?_; simp only [Try.ntmps34, List.length_cons, List.length_nil, List.replicate, List.cons_append, List.nil_append, Nat.reduceSub, Nat.reduceAdd])
  (repeat (first | refine st ?_ | refine blockA.here ?_ | refine blockA.exit rfl ?_ | (refine And.intro (by omega) ?_) | (refine AW.condT rfl rfl (by first | rfl | assumption) ?_) | (refine AW.condF rfl rfl (by first | rfl | assumption) ?_) | (refine AL.guT rfl (by first | rfl | assumption) ?_) | ((first | refine AL.ld rfl ?_ | refine AL.ap rfl rfl ?_ | refine AL.ca rfl ?_ | refine AL.slW (by kernel_rfl) rfl ?_ | refine AL.pu rfl ?_ | refine AL.guF rfl (by first | rfl | assumption) ?_ | refine AL.skip rfl ?_); simp (disch := omega) only [Option.some.injEq, TypeDesc.slice.injEq, exists_eq_left', push_cast, ↓reduceIte, reduceCtorEq, Nat.reduceAdd, Nat.reduceMul, Nat.reduceLeDiff, Nat.reduceLT, Nat.reduceSub, Int.reduceNe, Int.reduceEq, Int.reduceLE, Int.reduceLT, Int.reduceToNat])))
  refine AW.loopF [0, 2, 3, 4, 5, 6, 7, 8, 9, 10, 11, 12, 13, 14, 15, 16, 17, 18, 19, 20, 21, 22, 23, 24, 25, 26, 27, 28, 29, 30, 31, 32, 33, 34, 35, 36, 37, 38, 39, 40, 41, 42, 43] (fun m g M' => ∃ w, g 0 = w ∧ ∃ o, g 4 = o ∧ ∃ ys, ys.length = m ∧ Sl M w 1 (ints .u8 ys) ∧ ys.length ≤ xs.length ∧ (∀ x ∈ ys, 0 ≤ x ∧ x ≤ 255) ∧ (∀ b ∈ blkOf w, b ∈ blkOf v) ∧ Fr M M' [] ∧ ∃ out, New M M' o 1 (ints .u32 out) ∧ out.length ≤ xs.length - ys.length ∧ segP (xs.length + 1) xs = (segP (ys.length + 1) ys).map fun l => out ++ l) xs.length ?_ ?_
  · refine ⟨v, rfl, .slice none 0 0, rfl, xs, rfl, hv, Nat.le_refl _, hb, fun b h => h, Fr.refl M, [], New.nil M (by omega), Nat.zero_le _, ?_⟩
    cases segP (xs.length + 1) xs <;> rfl
  rintro m g M1 ⟨w, h0, o, h4, ys, rfl, hw, hyl, hyb, hblk, hF, out, hN, hol, hP⟩
  simp (disch := omega) only [push_cast, ↓reduceIte, reduceCtorEq, Nat.reduceAdd, Nat.reduceMul, Nat.reduceLeDiff, Nat.reduceLT, Nat.reduceSub, Int.reduceNe, Int.reduceEq, Int.reduceLE, Int.reduceLT, Int.reduceToNat, h0, h4]
  have hw1 := hw.keep hF (by simp)
  have hs := hw1.isSl
  have hn := hw1.lnI
  (repeat (first | refine st ?_ | refine blockA.here ?_ | refine blockA.exit rfl ?_ | (refine And.intro (by omega) ?_) | (refine AW.condT rfl rfl (by first | rfl | assumption) ?_) | (refine AW.condF rfl rfl (by first | rfl | assumption) ?_) | (refine AL.guT rfl (by first | rfl | assumption) ?_) | ((first | refine AL.ld rfl ?_ | refine AL.ap rfl rfl ?_ | refine AL.ca rfl ?_ | refine AL.slW (by kernel_rfl) rfl ?_ | refine AL.pu rfl ?_ | refine AL.guF rfl (by first | rfl | assumption) ?_ | refine AL.skip rfl ?_); simp (disch := omega) only [Option.some.injEq, TypeDesc.slice.injEq, exists_eq_left', push_cast, ↓reduceIte, reduceCtorEq, Nat.reduceAdd, Nat.reduceMul, Nat.reduceLeDiff, Nat.reduceLT, Nat.reduceSub, Int.reduceNe, Int.reduceEq, Int.reduceLE, Int.reduceLT, Int.reduceToNat, hs, hn])))
  ((first | refine AL.gu rfl (fun hp => ?_) (fun hp => ?_) | refine AW.condS rfl rfl (fun hp => ?_) (fun hp => ?_)) <;> (try (have hp' := hp; simp only [Bool.not_eq_true', Bool.not_eq_false', Bool.not_true, Bool.not_false, decide_eq_true_eq, decide_eq_false_iff_not, Classical.not_not, Int.not_lt, Int.not_le, gt_iff_lt, ge_iff_le, beq_iff_eq] at hp')))
  · have hld := fun i h1 => hw1.ldN (P := Try.prog) (ty := 5) (i := i) (by kernel_rfl) h1
    have hl0 := fun h1 => hw1.ld0 (P := Try.prog) (ty := 5) (by kernel_rfl) h1
    have hne : ys ≠ [] := by rintro rfl; exact absurd hp' (by simp)
    have bad : ∀ b : Bool, b = false → (segP (ys.length + 1) ys = none) → ∃ w d, (Value.tuple ⟨[.slice none 0 0, .bool b]⟩) = .tuple ⟨[w, .bool d]⟩ ∧
        ((∃ l, pathP xs = some l ∧ d = true ∧ Sl M1 w 1 (ints .u32 l) ∧ ∀ b ∈ blkOf w, M.length ≤ b) ∨ (pathP xs = none ∧ d = false ∧ ∃ l, Sl M1 w 1 (ints .u32 l) ∧ ∀ b ∈ blkOf w, M.length ≤ b)) :=
      fun b hb hn => ⟨_, _, rfl, .inr ⟨pathP_none hP hn, hb, [], Sl.nil M1 (by omega), fun b hb => by cases hb⟩⟩
    by_cases c1 : ys.length < 2
    · have d1 : decide ((ys.length : Int) < 2) = true := decide_eq_true (by omega)
      (repeat (first | refine st ?_ | refine blockA.here ?_ | refine blockA.exit rfl ?_ | (refine And.intro (by omega) ?_) | (refine AW.condT rfl rfl (by first | rfl | assumption) ?_) | (refine AW.condF rfl rfl (by first | rfl | assumption) ?_) | (refine AL.guT rfl (by first | rfl | assumption) ?_) | ((first | refine AL.ld rfl ?_ | refine AL.ap rfl rfl ?_ | refine AL.ca rfl ?_ | refine AL.slW (by kernel_rfl) rfl ?_ | refine AL.pu rfl ?_ | refine AL.guF rfl (by first | rfl | assumption) ?_ | refine AL.skip rfl ?_); simp (disch := omega) only [Option.some.injEq, TypeDesc.slice.injEq, exists_eq_left', push_cast, ↓reduceIte, reduceCtorEq, Nat.reduceAdd, Nat.reduceMul, Nat.reduceLeDiff, Nat.reduceLT, Nat.reduceSub, Int.reduceNe, Int.reduceEq, Int.reduceLE, Int.reduceLT, Int.reduceToNat, hs, hn, d1])))
      ((first | refine retA.ret (by rfl) ?_ | refine retA.normal (by rfl) ?_); simp (disch := omega) only [push_cast, ↓reduceIte, reduceCtorEq, Nat.reduceAdd, Nat.reduceMul, Nat.reduceLeDiff, Nat.reduceLT, Nat.reduceSub, Int.reduceNe, Int.reduceEq, Int.reduceLE, Int.reduceLT, Int.reduceToNat])
      exact ⟨hF, bad false rfl (segP_bad hne (.inl c1))⟩
    have d1 : decide ((ys.length : Int) < 2) = false := decide_eq_false (by omega)
    by_cases c2 : ys.getD 0 0 = 2
    · have d2 : decide ((2 : Int) = 2) = true := rfl
      have b1 := getD_byte hyb 1
      have b11 := b1.1
      have b12 := b1.2
      obtain ⟨q, hq⟩ : ∃ q : Nat, ys.getD 1 0 = q := ⟨(ys.getD 1 0).toNat, by omega⟩
      by_cases c3 : q = 0
      · have d3 : decide ((q : Int) = 0) = true := decide_eq_true (by omega)
        (repeat (first | refine st ?_ | refine blockA.here ?_ | refine blockA.exit rfl ?_ | (refine And.intro (by omega) ?_) | (refine AW.condT rfl rfl (by first | rfl | assumption) ?_) | (refine AW.condF rfl rfl (by first | rfl | assumption) ?_) | (refine AL.guT rfl (by first | rfl | assumption) ?_) | ((first | refine AL.ld rfl ?_ | refine AL.ap rfl rfl ?_ | refine AL.ca rfl ?_ | refine AL.slW (by kernel_rfl) rfl ?_ | refine AL.pu rfl ?_ | refine AL.guF rfl (by first | rfl | assumption) ?_ | refine AL.skip rfl ?_); simp (disch := omega) only [Option.some.injEq, TypeDesc.slice.injEq, exists_eq_left', push_cast, ↓reduceIte, reduceCtorEq, Nat.reduceAdd, Nat.reduceMul, Nat.reduceLeDiff, Nat.reduceLT, Nat.reduceSub, Int.reduceNe, Int.reduceEq, Int.reduceLE, Int.reduceLT, Int.reduceToNat, hs, hn, d1, hld, hl0, c2, hq, d3, Bool.not_true, Bool.not_false])))
        ((first | refine retA.ret (by rfl) ?_ | refine retA.normal (by rfl) ?_); simp (disch := omega) only [push_cast, ↓reduceIte, reduceCtorEq, Nat.reduceAdd, Nat.reduceMul, Nat.reduceLeDiff, Nat.reduceLT, Nat.reduceSub, Int.reduceNe, Int.reduceEq, Int.reduceLE, Int.reduceLT, Int.reduceToNat])
        exact ⟨hF, bad false rfl (segP_bad hne (.inr (.inr (.inl (by omega)))))⟩
      · have d3 : decide ((q : Int) = 0) = false := decide_eq_false (by omega)
        obtain ⟨w1, hw1', p1⟩ := hw.pcFrom 2 (by omega)
        have p1k := p1.keep hF (by simp)
        have hw1'' : aslice w 1 (some (.int .i64 2)) none none = some w1 := hw1'
        have hsz := hw1.sz
        have hs1 := p1.sl.isSl
        have hn1 := p1.sl.lnI
        obtain ⟨m1, hm1⟩ : ∃ m1, ys.length = m1 + 2 := ⟨ys.length - 2, by omega⟩
        have hdl : (ys.drop 2).length = m1 := by rw [List.length_drop]; omega
        rw [hdl] at hn1
        by_cases c4 : m1 < 4 * q
        · have d4 : decide ((m1 : Int) < 4 * (q : Int)) = true := decide_eq_true (by omega)
          (repeat (first | refine st ?_ | refine blockA.here ?_ | refine blockA.exit rfl ?_ | (refine And.intro (by omega) ?_) | (refine AW.condT rfl rfl (by first | rfl | assumption) ?_) | (refine AW.condF rfl rfl (by first | rfl | assumption) ?_) | (refine AL.guT rfl (by first | rfl | assumption) ?_) | ((first | refine AL.ld rfl ?_ | refine AL.ap rfl rfl ?_ | refine AL.ca rfl ?_ | refine AL.slW (by kernel_rfl) rfl ?_ | refine AL.pu rfl ?_ | refine AL.guF rfl (by first | rfl | assumption) ?_ | refine AL.skip rfl ?_); simp (disch := omega) only [Option.some.injEq, TypeDesc.slice.injEq, exists_eq_left', push_cast, ↓reduceIte, reduceCtorEq, Nat.reduceAdd, Nat.reduceMul, Nat.reduceLeDiff, Nat.reduceLT, Nat.reduceSub, Int.reduceNe, Int.reduceEq, Int.reduceLE, Int.reduceLT, Int.reduceToNat, hs, hn, d1, hld, hl0, c2, hq, d3, w_i64, hw1'', hsz, hs1, hn1, d4, Bool.not_true, Bool.not_false, Option.map_none, Option.map_some])))
          ((first | refine retA.ret (by rfl) ?_ | refine retA.normal (by rfl) ?_); simp (disch := omega) only [push_cast, ↓reduceIte, reduceCtorEq, Nat.reduceAdd, Nat.reduceMul, Nat.reduceLeDiff, Nat.reduceLT, Nat.reduceSub, Int.reduceNe, Int.reduceEq, Int.reduceLE, Int.reduceLT, Int.reduceToNat])
          exact ⟨hF, bad false rfl (segP_bad hne (.inr (.inr (.inr (by omega)))))⟩
        · have d4 : decide ((m1 : Int) < 4 * (q : Int)) = false := decide_eq_false (by omega)
          obtain ⟨w2, hw2, p2⟩ := p1.sl.pcTo (4 * q) (by omega)
          obtain ⟨w3, hw3, p3⟩ := p1.sl.pcFrom (4 * q) (by omega)
          have hw2' : aslice w1 1 none (some (.int .i64 (4 * (q : Int)))) none = some w2 := hw2
          have hw3' : aslice w1 1 (some (.int .i64 (4 * (q : Int)))) none none = some w3 := hw3
          have hsz1 := p1k.sl.sz
          (repeat (first | refine st ?_ | refine blockA.here ?_ | refine blockA.exit rfl ?_ | (refine And.intro (by omega) ?_) | (refine AW.condT rfl rfl (by first | rfl | assumption) ?_) | (refine AW.condF rfl rfl (by first | rfl | assumption) ?_) | (refine AL.guT rfl (by first | rfl | assumption) ?_) | ((first | refine AL.ld rfl ?_ | refine AL.ap rfl rfl ?_ | refine AL.ca rfl ?_ | refine AL.slW (by kernel_rfl) rfl ?_ | refine AL.pu rfl ?_ | refine AL.guF rfl (by first | rfl | assumption) ?_ | refine AL.skip rfl ?_); simp (disch := omega) only [Option.some.injEq, TypeDesc.slice.injEq, exists_eq_left', push_cast, ↓reduceIte, reduceCtorEq, Nat.reduceAdd, Nat.reduceMul, Nat.reduceLeDiff, Nat.reduceLT, Nat.reduceSub, Int.reduceNe, Int.reduceEq, Int.reduceLE, Int.reduceLT, Int.reduceToNat, hs, hn, d1, hld, hl0, c2, hq, d3, w_i64, hw1'', hsz, hs1, hn1, d4, hw2', hsz1, Bool.not_true, Bool.not_false, Option.map_none, Option.map_some])))
          have hl4 : ((ys.drop 2).take (4 * q)).length = 4 * q := by rw [List.length_take]; omega
          refine (list_spec w2 ((ys.drop 2).take (4 * q)) M1 (p2.sl.keep hF (by simp)) (by omega) (by omega) (fun x hx => hyb x (List.mem_of_mem_drop (List.mem_of_mem_take hx)))).mono ?_
          rintro r M2 ⟨hN2, hF2⟩
          rw [hl4, show 4 * q / 4 = q by omega, words_take] at hN2
          (repeat (first | refine st ?_ | refine blockA.here ?_ | refine blockA.exit rfl ?_ | (refine And.intro (by omega) ?_) | (refine AW.condT rfl rfl (by first | rfl | assumption) ?_) | (refine AW.condF rfl rfl (by first | rfl | assumption) ?_) | (refine AL.guT rfl (by first | rfl | assumption) ?_) | ((first | refine AL.ld rfl ?_ | refine AL.ap rfl rfl ?_ | refine AL.ca rfl ?_ | refine AL.slW (by kernel_rfl) rfl ?_ | refine AL.pu rfl ?_ | refine AL.guF rfl (by first | rfl | assumption) ?_ | refine AL.skip rfl ?_); simp (disch := omega) only [Option.some.injEq, TypeDesc.slice.injEq, exists_eq_left', push_cast, ↓reduceIte, reduceCtorEq, Nat.reduceAdd, Nat.reduceMul, Nat.reduceLeDiff, Nat.reduceLT, Nat.reduceSub, Int.reduceNe, Int.reduceEq, Int.reduceLE, Int.reduceLT, Int.reduceToNat])))
          have hN' := hN.keep hF2 (by simp)
          have hwl := words_length (ys.drop 2) q
          refine appK.ints (P := Try.prog) (e := 25) (bt := 4) (z := .int .u32 0) (by kernel_rfl) (by kernel_rfl) (by kernel_rfl) (by kernel_rfl) (by decide) hN'.1 hN2.sl (by omega) ?_
          intro v' M3 hN3 hF3
          have hF13 : Fr M M3 [] := (hF.tr hF2).new hN' hF3
          have hdd : (ys.drop 2).drop (4 * q) = ys.drop (2 + 4 * q) := by rw [List.drop_drop]
          have p3k : Sl M w3 1 (ints .u8 (ys.drop (2 + 4 * q))) := by rw [← hdd]; exact p3.sl
          have hsz3 : szOk M3 w1 1 := (p1.keep hF13 (by simp)).sl.sz
          (repeat (first | refine st ?_ | refine blockA.here ?_ | refine blockA.exit rfl ?_ | (refine And.intro (by omega) ?_) | (refine AW.condT rfl rfl (by first | rfl | assumption) ?_) | (refine AW.condF rfl rfl (by first | rfl | assumption) ?_) | (refine AL.guT rfl (by first | rfl | assumption) ?_) | ((first | refine AL.ld rfl ?_ | refine AL.ap rfl rfl ?_ | refine AL.ca rfl ?_ | refine AL.slW (by kernel_rfl) rfl ?_ | refine AL.pu rfl ?_ | refine AL.guF rfl (by first | rfl | assumption) ?_ | refine AL.skip rfl ?_); simp (disch := omega) only [Option.some.injEq, TypeDesc.slice.injEq, exists_eq_left', push_cast, ↓reduceIte, reduceCtorEq, Nat.reduceAdd, Nat.reduceMul, Nat.reduceLeDiff, Nat.reduceLT, Nat.reduceSub, Int.reduceNe, Int.reduceEq, Int.reduceLE, Int.reduceLT, Int.reduceToNat, hw3', hsz3, Option.map_none, Option.map_some])))
          have hylen : (ys.drop (2 + 4 * q)).length = ys.length - (2 + 4 * q) := List.length_drop
          refine ⟨rfl, ys.length - (2 + 4 * q), by omega, ys.drop (2 + 4 * q), hylen, p3k, by omega, fun x hx => hyb x (List.mem_of_mem_drop hx), fun b hb => hblk b (p1.blk b (p3.blk b hb)), hF13, out ++ words (ys.drop 2) q, hN3.after (hF.tr hF2), by rw [List.length_append]; omega, ?_⟩
          rw [hP, segP_good hne (by omega) c2 hq (by omega) (by omega)]
          cases segP ((ys.drop (2 + 4 * q)).length + 1) (ys.drop (2 + 4 * q)) <;> simp
    · have d2 : decide (ys.getD 0 0 = 2) = false := decide_eq_false c2
      (repeat (first | refine st ?_ | refine blockA.here ?_ | refine blockA.exit rfl ?_ | (refine And.intro (by omega) ?_) | (refine AW.condT rfl rfl (by first | rfl | assumption) ?_) | (refine AW.condF rfl rfl (by first | rfl | assumption) ?_) | (refine AL.guT rfl (by first | rfl | assumption) ?_) | ((first | refine AL.ld rfl ?_ | refine AL.ap rfl rfl ?_ | refine AL.ca rfl ?_ | refine AL.slW (by kernel_rfl) rfl ?_ | refine AL.pu rfl ?_ | refine AL.guF rfl (by first | rfl | assumption) ?_ | refine AL.skip rfl ?_); simp (disch := omega) only [Option.some.injEq, TypeDesc.slice.injEq, exists_eq_left', push_cast, ↓reduceIte, reduceCtorEq, Nat.reduceAdd, Nat.reduceMul, Nat.reduceLeDiff, Nat.reduceLT, Nat.reduceSub, Int.reduceNe, Int.reduceEq, Int.reduceLE, Int.reduceLT, Int.reduceToNat, hs, hn, d1, hld, hl0, d2, Bool.not_true, Bool.not_false])))
      ((first | refine retA.ret (by rfl) ?_ | refine retA.normal (by rfl) ?_); simp (disch := omega) only [push_cast, ↓reduceIte, reduceCtorEq, Nat.reduceAdd, Nat.reduceMul, Nat.reduceLeDiff, Nat.reduceLT, Nat.reduceSub, Int.reduceNe, Int.reduceEq, Int.reduceLE, Int.reduceLT, Int.reduceToNat])
      exact ⟨hF, bad false rfl (segP_bad hne (.inr (.inl c2)))⟩
  · have hys : ys = [] := List.eq_nil_of_length_eq_zero (by omega)
    subst hys
    have hso := hN.sl.isSl
    have hno := hN.sl.lnI
    have hP' : segP (xs.length + 1) xs = some out := by rw [hP]; simp [segP]
    by_cases c1 : out.length ≤ 255
    · have d1 : decide ((out.length : Int) ≤ 255) = true := decide_eq_true (by omega)
      (repeat (first | refine st ?_ | refine blockA.here ?_ | refine blockA.exit rfl ?_ | (refine And.intro (by omega) ?_) | (refine AW.condT rfl rfl (by first | rfl | assumption) ?_) | (refine AW.condF rfl rfl (by first | rfl | assumption) ?_) | (refine AL.guT rfl (by first | rfl | assumption) ?_) | ((first | refine AL.ld rfl ?_ | refine AL.ap rfl rfl ?_ | refine AL.ca rfl ?_ | refine AL.slW (by kernel_rfl) rfl ?_ | refine AL.pu rfl ?_ | refine AL.guF rfl (by first | rfl | assumption) ?_ | refine AL.skip rfl ?_); simp (disch := omega) only [Option.some.injEq, TypeDesc.slice.injEq, exists_eq_left', push_cast, ↓reduceIte, reduceCtorEq, Nat.reduceAdd, Nat.reduceMul, Nat.reduceLeDiff, Nat.reduceLT, Nat.reduceSub, Int.reduceNe, Int.reduceEq, Int.reduceLE, Int.reduceLT, Int.reduceToNat, hso, hno, d1])))
      refine (has_spec o out 0 M1 hN.sl (by omega)).mono ?_
      rintro r M2 ⟨rfl, rfl⟩
      (repeat (first | refine st ?_ | refine blockA.here ?_ | refine blockA.exit rfl ?_ | (refine And.intro (by omega) ?_) | (refine AW.condT rfl rfl (by first | rfl | assumption) ?_) | (refine AW.condF rfl rfl (by first | rfl | assumption) ?_) | (refine AL.guT rfl (by first | rfl | assumption) ?_) | ((first | refine AL.ld rfl ?_ | refine AL.ap rfl rfl ?_ | refine AL.ca rfl ?_ | refine AL.slW (by kernel_rfl) rfl ?_ | refine AL.pu rfl ?_ | refine AL.guF rfl (by first | rfl | assumption) ?_ | refine AL.skip rfl ?_); simp (disch := omega) only [Option.some.injEq, TypeDesc.slice.injEq, exists_eq_left', push_cast, ↓reduceIte, reduceCtorEq, Nat.reduceAdd, Nat.reduceMul, Nat.reduceLeDiff, Nat.reduceLT, Nat.reduceSub, Int.reduceNe, Int.reduceEq, Int.reduceLE, Int.reduceLT, Int.reduceToNat])))
      ((first | refine retA.ret (by rfl) ?_ | refine retA.normal (by rfl) ?_); simp (disch := omega) only [push_cast, ↓reduceIte, reduceCtorEq, Nat.reduceAdd, Nat.reduceMul, Nat.reduceLeDiff, Nat.reduceLT, Nat.reduceSub, Int.reduceNe, Int.reduceEq, Int.reduceLE, Int.reduceLT, Int.reduceToNat])
      refine ⟨hF, ?_⟩
      by_cases c2 : (0 : Int) ∈ out
      · exact ⟨_, _, rfl, .inr ⟨by unfold pathP; rw [hP']; simp [c2], by simp [c2], out, hN.sl, hN.blk⟩⟩
      · exact ⟨_, _, rfl, .inl ⟨out, by unfold pathP; rw [hP']; simp [c1, c2], by simp [c2], hN.sl, hN.blk⟩⟩
    · have d1 : decide ((out.length : Int) ≤ 255) = false := decide_eq_false (by omega)
      (repeat (first | refine st ?_ | refine blockA.here ?_ | refine blockA.exit rfl ?_ | (refine And.intro (by omega) ?_) | (refine AW.condT rfl rfl (by first | rfl | assumption) ?_) | (refine AW.condF rfl rfl (by first | rfl | assumption) ?_) | (refine AL.guT rfl (by first | rfl | assumption) ?_) | ((first | refine AL.ld rfl ?_ | refine AL.ap rfl rfl ?_ | refine AL.ca rfl ?_ | refine AL.slW (by kernel_rfl) rfl ?_ | refine AL.pu rfl ?_ | refine AL.guF rfl (by first | rfl | assumption) ?_ | refine AL.skip rfl ?_); simp (disch := omega) only [Option.some.injEq, TypeDesc.slice.injEq, exists_eq_left', push_cast, ↓reduceIte, reduceCtorEq, Nat.reduceAdd, Nat.reduceMul, Nat.reduceLeDiff, Nat.reduceLT, Nat.reduceSub, Int.reduceNe, Int.reduceEq, Int.reduceLE, Int.reduceLT, Int.reduceToNat, hso, hno, d1])))
      ((first | refine retA.ret (by rfl) ?_ | refine retA.normal (by rfl) ?_); simp (disch := omega) only [push_cast, ↓reduceIte, reduceCtorEq, Nat.reduceAdd, Nat.reduceMul, Nat.reduceLeDiff, Nat.reduceLT, Nat.reduceSub, Int.reduceNe, Int.reduceEq, Int.reduceLE, Int.reduceLT, Int.reduceToNat])
      exact ⟨hF, _, _, rfl, .inr ⟨by unfold pathP; rw [hP']; simp [c1], rfl, out, hN.sl, hN.blk⟩⟩

end Go.Proofs.Ytbjipdmbdabniaa.Ax
