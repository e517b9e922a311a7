/- Contracts of functions over the abstract machine. No conditions: lemmas alone. -/
import Derived.Test.YtbjipdmbdabniaaAttrJoinsLibD
import Derived.Test.YtbjipdmbdabniaaAttrJoinsAw1
import Derived.Test.YtbjipdmbdabniaaAttrJoinsRd
import Derived.Test.YtbjipdmbdabniaaAttrJoinsIn
namespace Go.Proofs.Ytbjipdmbdabniaa.Ax
open Go Go.RowKit
set_option linter.unusedVariables false
set_option linter.unusedSimpArgs false
set_option maxRecDepth 100000
set_option maxHeartbeats 20000000
attribute [local irreducible] thenA blockA scopeA retA AL AW AD ADL AH clrK CallA apure aload bload appK ptrK fnK ares szOk planOk okOps
/-- An append to nothing. -/
theorem app0 {M : Mem} {v : Value} {xs : List Int} {C : Value → Mem → Prop} (hv : Sl M v 1 (ints .u8 xs)) (hl : xs.length ≤ 1000000) (h : ∀ v' M', New M M' v' 1 (ints .u8 xs) → Fr M M' [] → C v' M') : appK Try.prog 22 22 (.slice (some ⟨M.length, 0, none⟩) 0 0) v (M ++ [.row true 1 []]) C := by
  have r0 := New.row M (s := 1) (n := 0) (cs := []) (by omega) rfl rfl (by decide)
  refine appK.ints (P := Try.prog) (e := 5) (bt := 1) (z := .int .u8 0) (by kernel_rfl) (by kernel_rfl) (by kernel_rfl) (by kernel_rfl) (by decide) (xs := []) r0.1 (hv.keep (Fr.push M (.row true 1 [])) (by simp)) (by simp; omega) ?_
  intro v' M' hN hF
  rw [List.nil_append] at hN
  exact h v' M' (hN.after (Fr.push M (.row true 1 []))) ((Fr.push M (.row true 1 [])).tr hF)
theorem app1 {M M1 : Mem} {v w : Value} {xs ys : List Int} {C : Value → Mem → Prop} (hN : New M M1 v 1 (ints .u8 xs)) (hF : Fr M M1 []) (hw : Sl M1 w 1 (ints .u8 ys)) (hl : xs.length + ys.length ≤ 1000000) (h : ∀ v' M', New M M' v' 1 (ints .u8 (xs ++ ys)) → Fr M M' [] → C v' M') : appK Try.prog 22 22 v w M1 C := by
  refine appK.ints (P := Try.prog) (e := 5) (bt := 1) (z := .int .u8 0) (by kernel_rfl) (by kernel_rfl) (by kernel_rfl) (by kernel_rfl) (by decide) hN.1 hw (by omega) ?_
  intro v' M' hN2 hF2
  exact h v' M' (hN2.after hF) (hF.new hN hF2)
theorem attrJoins_in (M : Mem) (v0 v1 : Value) (h0 : In22 M v0) (h1 : In22 M v1) : CallA Try.prog 4 [v0, v1] M fun r _ => r = .bool true := by
  obtain ⟨v, xs, e, hb, hx, hv⟩ := h0
  cases e
  obtain ⟨w, ys, e, hc, hy, hw⟩ := h1
  cases e
  have hb := fun x h => wf_u8 (hb x h)
  have hc := fun x h => wf_u8 (hc x h)
  (refine CallA.of_body Try.func4 rfl (by rfl) ?_; simp only [Try.ntmps4, List.length_cons, List.length_nil, List.replicate, List.cons_append, List.nil_append, Nat.reduceSub, Nat.reduceAdd])
  (repeat (first | refine st ?_ | (refine And.intro (by omega) ?_) | (refine AW.condT rfl rfl (by first | rfl | assumption) ?_) | (refine AW.condF rfl rfl (by first | rfl | assumption) ?_) | (refine AL.guT rfl (by first | rfl | assumption) ?_) | ((first | refine AL.ld rfl ?_ | refine AL.al ?_ | refine AL.lt rfl ?_ | refine AL.st rfl rfl ?_ | refine AL.ap rfl rfl ?_ | refine AL.ca rfl ?_ | refine AL.pu rfl ?_ | refine AL.guF rfl (by first | rfl | assumption) ?_ | refine AL.skip rfl ?_); simp (disch := omega) only [push_cast, ↓reduceIte, reduceCtorEq, Nat.reduceAdd, Nat.reduceMul, Nat.reduceLeDiff, Nat.reduceLT, Nat.reduceSub, Int.reduceNe, Int.reduceEq, Int.reduceLE, Int.reduceLT, Int.reduceToNat])))
  refine (alive_spec _).mono ?_
  rintro r M1 ⟨hF1, rfl⟩
  have hv1 := hv.keep hF1 (by simp)
  have hw1 := hw.keep hF1 (by simp)
  have hs := hv1.isSl
  have hn := hv1.lnI
  have hs2 := hw1.isSl
  have hn2 := hw1.lnI
  unfold maxLen at hx hy
  by_cases c1 : xs.length > 3000
  · have d1 : decide ((xs.length : Int) > 3000) = true := decide_eq_true (by omega)
    (repeat (first | refine st ?_ | (refine And.intro (by omega) ?_) | (refine AW.condT rfl rfl (by first | rfl | assumption) ?_) | (refine AW.condF rfl rfl (by first | rfl | assumption) ?_) | (refine AL.guT rfl (by first | rfl | assumption) ?_) | ((first | refine AL.ld rfl ?_ | refine AL.al ?_ | refine AL.lt rfl ?_ | refine AL.st rfl rfl ?_ | refine AL.ap rfl rfl ?_ | refine AL.ca rfl ?_ | refine AL.pu rfl ?_ | refine AL.guF rfl (by first | rfl | assumption) ?_ | refine AL.skip rfl ?_); simp (disch := omega) only [push_cast, ↓reduceIte, reduceCtorEq, Nat.reduceAdd, Nat.reduceMul, Nat.reduceLeDiff, Nat.reduceLT, Nat.reduceSub, Int.reduceNe, Int.reduceEq, Int.reduceLE, Int.reduceLT, Int.reduceToNat, hs, hn, d1, Bool.not_true])))
    ((first | refine retA.ret (by rfl) ?_ | refine retA.normal (by rfl) ?_); simp (disch := omega) only [push_cast, ↓reduceIte, reduceCtorEq, Nat.reduceAdd, Nat.reduceMul, Nat.reduceLeDiff, Nat.reduceLT, Nat.reduceSub, Int.reduceNe, Int.reduceEq, Int.reduceLE, Int.reduceLT, Int.reduceToNat])
  have d1 : decide ((xs.length : Int) > 3000) = false := decide_eq_false (by omega)
  by_cases c2 : ys.length > 3000
  · have d2 : decide ((ys.length : Int) > 3000) = true := decide_eq_true (by omega)
    (repeat (first | refine st ?_ | (refine And.intro (by omega) ?_) | (refine AW.condT rfl rfl (by first | rfl | assumption) ?_) | (refine AW.condF rfl rfl (by first | rfl | assumption) ?_) | (refine AL.guT rfl (by first | rfl | assumption) ?_) | ((first | refine AL.ld rfl ?_ | refine AL.al ?_ | refine AL.lt rfl ?_ | refine AL.st rfl rfl ?_ | refine AL.ap rfl rfl ?_ | refine AL.ca rfl ?_ | refine AL.pu rfl ?_ | refine AL.guF rfl (by first | rfl | assumption) ?_ | refine AL.skip rfl ?_); simp (disch := omega) only [push_cast, ↓reduceIte, reduceCtorEq, Nat.reduceAdd, Nat.reduceMul, Nat.reduceLeDiff, Nat.reduceLT, Nat.reduceSub, Int.reduceNe, Int.reduceEq, Int.reduceLE, Int.reduceLT, Int.reduceToNat, hs, hn, hs2, hn2, d1, d2, Bool.not_true])))
    ((first | refine retA.ret (by rfl) ?_ | refine retA.normal (by rfl) ?_); simp (disch := omega) only [push_cast, ↓reduceIte, reduceCtorEq, Nat.reduceAdd, Nat.reduceMul, Nat.reduceLeDiff, Nat.reduceLT, Nat.reduceSub, Int.reduceNe, Int.reduceEq, Int.reduceLE, Int.reduceLT, Int.reduceToNat])
  have d2 : decide ((ys.length : Int) > 3000) = false := decide_eq_false (by omega)
  by_cases c3 : xs.length = 0
  · have d3 : decide ((xs.length : Int) = 0) = true := decide_eq_true (by omega)
    (repeat (first | refine st ?_ | (refine And.intro (by omega) ?_) | (refine AW.condT rfl rfl (by first | rfl | assumption) ?_) | (refine AW.condF rfl rfl (by first | rfl | assumption) ?_) | (refine AL.guT rfl (by first | rfl | assumption) ?_) | ((first | refine AL.ld rfl ?_ | refine AL.al ?_ | refine AL.lt rfl ?_ | refine AL.st rfl rfl ?_ | refine AL.ap rfl rfl ?_ | refine AL.ca rfl ?_ | refine AL.pu rfl ?_ | refine AL.guF rfl (by first | rfl | assumption) ?_ | refine AL.skip rfl ?_); simp (disch := omega) only [push_cast, ↓reduceIte, reduceCtorEq, Nat.reduceAdd, Nat.reduceMul, Nat.reduceLeDiff, Nat.reduceLT, Nat.reduceSub, Int.reduceNe, Int.reduceEq, Int.reduceLE, Int.reduceLT, Int.reduceToNat, hs, hn, hs2, hn2, d1, d2, d3, Bool.not_true])))
    ((first | refine retA.ret (by rfl) ?_ | refine retA.normal (by rfl) ?_); simp (disch := omega) only [push_cast, ↓reduceIte, reduceCtorEq, Nat.reduceAdd, Nat.reduceMul, Nat.reduceLeDiff, Nat.reduceLT, Nat.reduceSub, Int.reduceNe, Int.reduceEq, Int.reduceLE, Int.reduceLT, Int.reduceToNat])
  have d3 : decide ((xs.length : Int) = 0) = false := decide_eq_false (by omega)
  by_cases c4 : ys.length = 0
  · have d4 : decide ((ys.length : Int) = 0) = true := decide_eq_true (by omega)
    (repeat (first | refine st ?_ | (refine And.intro (by omega) ?_) | (refine AW.condT rfl rfl (by first | rfl | assumption) ?_) | (refine AW.condF rfl rfl (by first | rfl | assumption) ?_) | (refine AL.guT rfl (by first | rfl | assumption) ?_) | ((first | refine AL.ld rfl ?_ | refine AL.al ?_ | refine AL.lt rfl ?_ | refine AL.st rfl rfl ?_ | refine AL.ap rfl rfl ?_ | refine AL.ca rfl ?_ | refine AL.pu rfl ?_ | refine AL.guF rfl (by first | rfl | assumption) ?_ | refine AL.skip rfl ?_); simp (disch := omega) only [push_cast, ↓reduceIte, reduceCtorEq, Nat.reduceAdd, Nat.reduceMul, Nat.reduceLeDiff, Nat.reduceLT, Nat.reduceSub, Int.reduceNe, Int.reduceEq, Int.reduceLE, Int.reduceLT, Int.reduceToNat, hs, hn, hs2, hn2, d1, d2, d3, d4, Bool.not_true])))
    ((first | refine retA.ret (by rfl) ?_ | refine retA.normal (by rfl) ?_); simp (disch := omega) only [push_cast, ↓reduceIte, reduceCtorEq, Nat.reduceAdd, Nat.reduceMul, Nat.reduceLeDiff, Nat.reduceLT, Nat.reduceSub, Int.reduceNe, Int.reduceEq, Int.reduceLE, Int.reduceLT, Int.reduceToNat])
  have d4 : decide ((ys.length : Int) = 0) = false := decide_eq_false (by omega)
  (repeat (first | refine st ?_ | (refine And.intro (by omega) ?_) | (refine AW.condT rfl rfl (by first | rfl | assumption) ?_) | (refine AW.condF rfl rfl (by first | rfl | assumption) ?_) | (refine AL.guT rfl (by first | rfl | assumption) ?_) | ((first | refine AL.ld rfl ?_ | refine AL.al ?_ | refine AL.lt rfl ?_ | refine AL.st rfl rfl ?_ | refine AL.ap rfl rfl ?_ | refine AL.ca rfl ?_ | refine AL.pu rfl ?_ | refine AL.guF rfl (by first | rfl | assumption) ?_ | refine AL.skip rfl ?_); simp (disch := omega) only [push_cast, ↓reduceIte, reduceCtorEq, Nat.reduceAdd, Nat.reduceMul, Nat.reduceLeDiff, Nat.reduceLT, Nat.reduceSub, Int.reduceNe, Int.reduceEq, Int.reduceLE, Int.reduceLT, Int.reduceToNat, hs, hn, hs2, hn2, d1, d2, d3, d4, Bool.not_true])))
  obtain ⟨A, e, hA⟩ : ∃ A e, rdP false xs = (A, e) := ⟨_, _, rfl⟩
  obtain ⟨B, f, hB⟩ : ∃ A e, rdP false ys = (A, e) := ⟨_, _, rfl⟩
  refine readK hv1 (by omega) hb hA ?_
  intro M2 p c hF2 hp hc' op oc
  simp only [Value.oneCell'] at op oc
  unfold avL
  have F2 := hF2.tr (Fr.push M2 (.box [.int .i64 A.origin, p, .int .u32 A.hop, .int .u32 A.med, .int .u32 A.pref, .bool A.hasMed, .bool A.hasPref, c]))
  clear hp hc'
  (repeat (first | refine st ?_ | (refine And.intro (by omega) ?_) | (refine AW.condT rfl rfl (by first | rfl | assumption) ?_) | (refine AW.condF rfl rfl (by first | rfl | assumption) ?_) | (refine AL.guT rfl (by first | rfl | assumption) ?_) | ((first | refine AL.ld rfl ?_ | refine AL.al ?_ | refine AL.lt rfl ?_ | refine AL.st rfl rfl ?_ | refine AL.ap rfl rfl ?_ | refine AL.ca rfl ?_ | refine AL.pu rfl ?_ | refine AL.guF rfl (by first | rfl | assumption) ?_ | refine AL.skip rfl ?_); simp (disch := omega) only [push_cast, ↓reduceIte, reduceCtorEq, Nat.reduceAdd, Nat.reduceMul, Nat.reduceLeDiff, Nat.reduceLT, Nat.reduceSub, Int.reduceNe, Int.reduceEq, Int.reduceLE, Int.reduceLT, Int.reduceToNat, op, oc, memE, boxE])))
  have hv2 := hv1.keep F2 (by simp)
  have hw2 := hw1.keep F2 (by simp)
  refine readK hw2 (by omega) hc hB ?_
  intro M3 p c hF3 hp hc' op oc
  simp only [Value.oneCell'] at op oc
  unfold avL
  have F3 := hF3.tr (Fr.push M3 (.box [.int .i64 B.origin, p, .int .u32 B.hop, .int .u32 B.med, .int .u32 B.pref, .bool B.hasMed, .bool B.hasPref, c]))
  clear hp hc'
  have hv3 := hv2.keep F3 (by simp)
  have hw3 := hw2.keep F3 (by simp)
  by_cases ce : e = 0
  rotate_left
  · have de : decide (e = 0) = false := decide_eq_false ce
    (repeat (first | refine st ?_ | (refine And.intro (by omega) ?_) | (refine AW.condT rfl rfl (by first | rfl | assumption) ?_) | (refine AW.condF rfl rfl (by first | rfl | assumption) ?_) | (refine AL.guT rfl (by first | rfl | assumption) ?_) | ((first | refine AL.ld rfl ?_ | refine AL.al ?_ | refine AL.lt rfl ?_ | refine AL.st rfl rfl ?_ | refine AL.ap rfl rfl ?_ | refine AL.ca rfl ?_ | refine AL.pu rfl ?_ | refine AL.guF rfl (by first | rfl | assumption) ?_ | refine AL.skip rfl ?_); simp (disch := omega) only [push_cast, ↓reduceIte, reduceCtorEq, Nat.reduceAdd, Nat.reduceMul, Nat.reduceLeDiff, Nat.reduceLT, Nat.reduceSub, Int.reduceNe, Int.reduceEq, Int.reduceLE, Int.reduceLT, Int.reduceToNat, op, oc, de, Bool.not_false, memE, boxE])))
    ((first | refine retA.ret (by rfl) ?_ | refine retA.normal (by rfl) ?_); simp (disch := omega) only [push_cast, ↓reduceIte, reduceCtorEq, Nat.reduceAdd, Nat.reduceMul, Nat.reduceLeDiff, Nat.reduceLT, Nat.reduceSub, Int.reduceNe, Int.reduceEq, Int.reduceLE, Int.reduceLT, Int.reduceToNat])
  subst ce
  have de : decide ((0 : Int) = 0) = true := rfl
  by_cases cf : f = 0
  rotate_left
  · have df : decide (f = 0) = false := decide_eq_false cf
    (repeat (first | refine st ?_ | (refine And.intro (by omega) ?_) | (refine AW.condT rfl rfl (by first | rfl | assumption) ?_) | (refine AW.condF rfl rfl (by first | rfl | assumption) ?_) | (refine AL.guT rfl (by first | rfl | assumption) ?_) | ((first | refine AL.ld rfl ?_ | refine AL.al ?_ | refine AL.lt rfl ?_ | refine AL.st rfl rfl ?_ | refine AL.ap rfl rfl ?_ | refine AL.ca rfl ?_ | refine AL.pu rfl ?_ | refine AL.guF rfl (by first | rfl | assumption) ?_ | refine AL.skip rfl ?_); simp (disch := omega) only [push_cast, ↓reduceIte, reduceCtorEq, Nat.reduceAdd, Nat.reduceMul, Nat.reduceLeDiff, Nat.reduceLT, Nat.reduceSub, Int.reduceNe, Int.reduceEq, Int.reduceLE, Int.reduceLT, Int.reduceToNat, op, oc, de, df, Bool.not_false, Bool.not_true, memE, boxE])))
    ((first | refine retA.ret (by rfl) ?_ | refine retA.normal (by rfl) ?_); simp (disch := omega) only [push_cast, ↓reduceIte, reduceCtorEq, Nat.reduceAdd, Nat.reduceMul, Nat.reduceLeDiff, Nat.reduceLT, Nat.reduceSub, Int.reduceNe, Int.reduceEq, Int.reduceLE, Int.reduceLT, Int.reduceToNat])
  subst cf
  obtain ⟨j1, j2, j3⟩ := rd_joins (xs := xs) (ys := ys) (by rintro rfl; exact c3 rfl) (by rintro rfl; exact c4 rfl) (by rw [hA]) (by rw [hB])
  obtain ⟨D, g, hD⟩ : ∃ A e, rdP false (xs ++ ys) = (A, e) := ⟨_, _, rfl⟩
  obtain ⟨E, k, hE⟩ : ∃ A e, rdP false (xs ++ xs) = (A, e) := ⟨_, _, rfl⟩
  rw [hD] at j1 j2
  rw [hE] at j3
  simp only at j2 j3
  subst j3
  have hxy : ∀ x ∈ xs ++ ys, 0 ≤ x ∧ x ≤ 255 := fun x h => by rcases List.mem_append.1 h with h | h; exact hb x h; exact hc x h
  have hyx : ∀ x ∈ ys ++ xs, 0 ≤ x ∧ x ≤ 255 := fun x h => by rcases List.mem_append.1 h with h | h; exact hc x h; exact hb x h
  have hxx : ∀ x ∈ xs ++ xs, 0 ≤ x ∧ x ≤ 255 := fun x h => by rcases List.mem_append.1 h with h | h; exact hb x h; exact hb x h
  (repeat (first | refine st ?_ | (refine And.intro (by omega) ?_) | (refine AW.condT rfl rfl (by first | rfl | assumption) ?_) | (refine AW.condF rfl rfl (by first | rfl | assumption) ?_) | (refine AL.guT rfl (by first | rfl | assumption) ?_) | ((first | refine AL.ld rfl ?_ | refine AL.al ?_ | refine AL.lt rfl ?_ | refine AL.st rfl rfl ?_ | refine AL.ap rfl rfl ?_ | refine AL.ca rfl ?_ | refine AL.pu rfl ?_ | refine AL.guF rfl (by first | rfl | assumption) ?_ | refine AL.skip rfl ?_); simp (disch := omega) only [push_cast, ↓reduceIte, reduceCtorEq, Nat.reduceAdd, Nat.reduceMul, Nat.reduceLeDiff, Nat.reduceLT, Nat.reduceSub, Int.reduceNe, Int.reduceEq, Int.reduceLE, Int.reduceLT, Int.reduceToNat, op, oc, de, Bool.not_false, Bool.not_true, memE, boxE])))
  clear F2 hF1 hF2 hv1 hw1 hv2 hw2 hv hw hF3
  generalize M3 ++ [Blk.box [.int .i64 B.origin, p, .int .u32 B.hop, .int .u32 B.med, .int .u32 B.pref, .bool B.hasMed, .bool B.hasPref, c]] = M4 at *
  refine app0 hv3 (by omega) ?_
  intro u M5 hN5 hF5
  (repeat (first | refine st ?_ | (refine And.intro (by omega) ?_) | (refine AW.condT rfl rfl (by first | rfl | assumption) ?_) | (refine AW.condF rfl rfl (by first | rfl | assumption) ?_) | (refine AL.guT rfl (by first | rfl | assumption) ?_) | ((first | refine AL.ld rfl ?_ | refine AL.al ?_ | refine AL.lt rfl ?_ | refine AL.st rfl rfl ?_ | refine AL.ap rfl rfl ?_ | refine AL.ca rfl ?_ | refine AL.pu rfl ?_ | refine AL.guF rfl (by first | rfl | assumption) ?_ | refine AL.skip rfl ?_); simp (disch := omega) only [push_cast, ↓reduceIte, reduceCtorEq, Nat.reduceAdd, Nat.reduceMul, Nat.reduceLeDiff, Nat.reduceLT, Nat.reduceSub, Int.reduceNe, Int.reduceEq, Int.reduceLE, Int.reduceLT, Int.reduceToNat])))
  refine app1 hN5 hF5 (hw3.keep hF5 (by simp)) (by omega) ?_
  intro u2 M6 hN6 hF6
  have hv6 := hv3.keep hF6 (by simp)
  have hw6 := hw3.keep hF6 (by simp)
  clear hN5 hF5 hv3 hw3
  (repeat (first | refine st ?_ | (refine And.intro (by omega) ?_) | (refine AW.condT rfl rfl (by first | rfl | assumption) ?_) | (refine AW.condF rfl rfl (by first | rfl | assumption) ?_) | (refine AL.guT rfl (by first | rfl | assumption) ?_) | ((first | refine AL.ld rfl ?_ | refine AL.al ?_ | refine AL.lt rfl ?_ | refine AL.st rfl rfl ?_ | refine AL.ap rfl rfl ?_ | refine AL.ca rfl ?_ | refine AL.pu rfl ?_ | refine AL.guF rfl (by first | rfl | assumption) ?_ | refine AL.skip rfl ?_); simp (disch := omega) only [push_cast, ↓reduceIte, reduceCtorEq, Nat.reduceAdd, Nat.reduceMul, Nat.reduceLeDiff, Nat.reduceLT, Nat.reduceSub, Int.reduceNe, Int.reduceEq, Int.reduceLE, Int.reduceLT, Int.reduceToNat])))
  refine app0 hw6 (by omega) ?_
  intro u3 M7 hN7 hF7
  (repeat (first | refine st ?_ | (refine And.intro (by omega) ?_) | (refine AW.condT rfl rfl (by first | rfl | assumption) ?_) | (refine AW.condF rfl rfl (by first | rfl | assumption) ?_) | (refine AL.guT rfl (by first | rfl | assumption) ?_) | ((first | refine AL.ld rfl ?_ | refine AL.al ?_ | refine AL.lt rfl ?_ | refine AL.st rfl rfl ?_ | refine AL.ap rfl rfl ?_ | refine AL.ca rfl ?_ | refine AL.pu rfl ?_ | refine AL.guF rfl (by first | rfl | assumption) ?_ | refine AL.skip rfl ?_); simp (disch := omega) only [push_cast, ↓reduceIte, reduceCtorEq, Nat.reduceAdd, Nat.reduceMul, Nat.reduceLeDiff, Nat.reduceLT, Nat.reduceSub, Int.reduceNe, Int.reduceEq, Int.reduceLE, Int.reduceLT, Int.reduceToNat])))
  refine app1 hN7 hF7 (hv6.keep hF7 (by simp)) (by omega) ?_
  intro u4 M8 hN8 hF8
  have hv8 := hv6.keep hF8 (by simp)
  have hx8 := hN6.1.keep hF8 (by simp)
  have hy8 := hN8.1
  clear hN7 hF7 hv6 hw6 hN6 hF6 hN8 hF8
  (repeat (first | refine st ?_ | (refine And.intro (by omega) ?_) | (refine AW.condT rfl rfl (by first | rfl | assumption) ?_) | (refine AW.condF rfl rfl (by first | rfl | assumption) ?_) | (refine AL.guT rfl (by first | rfl | assumption) ?_) | ((first | refine AL.ld rfl ?_ | refine AL.al ?_ | refine AL.lt rfl ?_ | refine AL.st rfl rfl ?_ | refine AL.ap rfl rfl ?_ | refine AL.ca rfl ?_ | refine AL.pu rfl ?_ | refine AL.guF rfl (by first | rfl | assumption) ?_ | refine AL.skip rfl ?_); simp (disch := omega) only [push_cast, ↓reduceIte, reduceCtorEq, Nat.reduceAdd, Nat.reduceMul, Nat.reduceLeDiff, Nat.reduceLT, Nat.reduceSub, Int.reduceNe, Int.reduceEq, Int.reduceLE, Int.reduceLT, Int.reduceToNat])))
  refine readK hx8.sl (by rw [List.length_append]; omega) hxy hD ?_
  intro M9 p1 c1 hF9 hp1 hc1 op1 oc1
  simp only [Value.oneCell'] at op1 oc1
  unfold avL
  (repeat (first | refine st ?_ | (refine And.intro (by omega) ?_) | (refine AW.condT rfl rfl (by first | rfl | assumption) ?_) | (refine AW.condF rfl rfl (by first | rfl | assumption) ?_) | (refine AL.guT rfl (by first | rfl | assumption) ?_) | ((first | refine AL.ld rfl ?_ | refine AL.al ?_ | refine AL.lt rfl ?_ | refine AL.st rfl rfl ?_ | refine AL.ap rfl rfl ?_ | refine AL.ca rfl ?_ | refine AL.pu rfl ?_ | refine AL.guF rfl (by first | rfl | assumption) ?_ | refine AL.skip rfl ?_); simp (disch := omega) only [push_cast, ↓reduceIte, reduceCtorEq, Nat.reduceAdd, Nat.reduceMul, Nat.reduceLeDiff, Nat.reduceLT, Nat.reduceSub, Int.reduceNe, Int.reduceEq, Int.reduceLE, Int.reduceLT, Int.reduceToNat, op1, oc1, memE, boxE])))
  have fb := Fr.push M9 (.box [.int .i64 D.origin, p1, .int .u32 D.hop, .int .u32 D.med, .int .u32 D.pref, .bool D.hasMed, .bool D.hasPref, c1])
  have bx := At.push M9 (.box [.int .i64 D.origin, p1, .int .u32 D.hop, .int .u32 D.med, .int .u32 D.pref, .bool D.hasMed, .bool D.hasPref, c1])
  have hp1 := hp1.keep fb (by simp)
  have hc1 := hc1.keep fb (by simp)
  have hv9 := hv8.keep (hF9.tr fb) (by simp)
  have hy9 := hy8.keep (hF9.tr fb) (by simp)
  clear hv8 hx8 hy8 hF9 fb
  generalize M9 ++ [Blk.box [.int .i64 D.origin, p1, .int .u32 D.hop, .int .u32 D.med, .int .u32 D.pref, .bool D.hasMed, .bool D.hasPref, c1]] = M10 at *
  generalize M9.length = b1 at *
  refine readK hy9.sl (by rw [List.length_append]; omega) hyx j1.symm ?_
  intro M11 p2 c2 hF11 hp2 hc2 op2 oc2
  simp only [Value.oneCell'] at op2 oc2
  unfold avL
  (repeat (first | refine st ?_ | (refine And.intro (by omega) ?_) | (refine AW.condT rfl rfl (by first | rfl | assumption) ?_) | (refine AW.condF rfl rfl (by first | rfl | assumption) ?_) | (refine AL.guT rfl (by first | rfl | assumption) ?_) | ((first | refine AL.ld rfl ?_ | refine AL.al ?_ | refine AL.lt rfl ?_ | refine AL.st rfl rfl ?_ | refine AL.ap rfl rfl ?_ | refine AL.ca rfl ?_ | refine AL.pu rfl ?_ | refine AL.guF rfl (by first | rfl | assumption) ?_ | refine AL.skip rfl ?_); simp (disch := omega) only [push_cast, ↓reduceIte, reduceCtorEq, Nat.reduceAdd, Nat.reduceMul, Nat.reduceLeDiff, Nat.reduceLT, Nat.reduceSub, Int.reduceNe, Int.reduceEq, Int.reduceLE, Int.reduceLT, Int.reduceToNat, op2, oc2, memE, boxE])))
  have fb := Fr.push M11 (.box [.int .i64 D.origin, p2, .int .u32 D.hop, .int .u32 D.med, .int .u32 D.pref, .bool D.hasMed, .bool D.hasPref, c2])
  have by_ := At.push M11 (.box [.int .i64 D.origin, p2, .int .u32 D.hop, .int .u32 D.med, .int .u32 D.pref, .bool D.hasMed, .bool D.hasPref, c2])
  have hp2 := hp2.keep fb (by simp)
  have hc2 := hc2.keep fb (by simp)
  have fz := hF11.tr fb
  have hv11 := hv9.keep fz (by simp)
  have hp1 := hp1.keep fz (by simp)
  have hc1 := hc1.keep fz (by simp)
  have bx := bx.keep fz (by simp)
  clear hv9 hy9 hF11 fb fz
  generalize M11 ++ [Blk.box [.int .i64 D.origin, p2, .int .u32 D.hop, .int .u32 D.med, .int .u32 D.pref, .bool D.hasMed, .bool D.hasPref, c2]] = M12 at *
  generalize M11.length = b2 at *
  refine app0 hv11 (by omega) ?_
  intro u5 M13 hN13 hF13
  (repeat (first | refine st ?_ | (refine And.intro (by omega) ?_) | (refine AW.condT rfl rfl (by first | rfl | assumption) ?_) | (refine AW.condF rfl rfl (by first | rfl | assumption) ?_) | (refine AL.guT rfl (by first | rfl | assumption) ?_) | ((first | refine AL.ld rfl ?_ | refine AL.al ?_ | refine AL.lt rfl ?_ | refine AL.st rfl rfl ?_ | refine AL.ap rfl rfl ?_ | refine AL.ca rfl ?_ | refine AL.pu rfl ?_ | refine AL.guF rfl (by first | rfl | assumption) ?_ | refine AL.skip rfl ?_); simp (disch := omega) only [push_cast, ↓reduceIte, reduceCtorEq, Nat.reduceAdd, Nat.reduceMul, Nat.reduceLeDiff, Nat.reduceLT, Nat.reduceSub, Int.reduceNe, Int.reduceEq, Int.reduceLE, Int.reduceLT, Int.reduceToNat])))
  refine app1 hN13 hF13 (hv11.keep hF13 (by simp)) (by omega) ?_
  intro u6 M14 hN14 hF14
  (repeat (first | refine st ?_ | (refine And.intro (by omega) ?_) | (refine AW.condT rfl rfl (by first | rfl | assumption) ?_) | (refine AW.condF rfl rfl (by first | rfl | assumption) ?_) | (refine AL.guT rfl (by first | rfl | assumption) ?_) | ((first | refine AL.ld rfl ?_ | refine AL.al ?_ | refine AL.lt rfl ?_ | refine AL.st rfl rfl ?_ | refine AL.ap rfl rfl ?_ | refine AL.ca rfl ?_ | refine AL.pu rfl ?_ | refine AL.guF rfl (by first | rfl | assumption) ?_ | refine AL.skip rfl ?_); simp (disch := omega) only [push_cast, ↓reduceIte, reduceCtorEq, Nat.reduceAdd, Nat.reduceMul, Nat.reduceLeDiff, Nat.reduceLT, Nat.reduceSub, Int.reduceNe, Int.reduceEq, Int.reduceLE, Int.reduceLT, Int.reduceToNat])))
  refine readK hN14.sl (by rw [List.length_append]; omega) hxx hE ?_
  intro M15 p3 c3 hF15 hp3 hc3 op3 oc3
  simp only [Value.oneCell'] at op3 oc3
  unfold avL
  have fz := (hF14.tr hF15).tr (Fr.push M15 (.box [.int .i64 E.origin, p3, .int .u32 E.hop, .int .u32 E.med, .int .u32 E.pref, .bool E.hasMed, .bool E.hasPref, c3]))
  have bx := bx.keep fz (by simp)
  have by_ := by_.keep fz (by simp)
  have hp1 := hp1.keep fz (by simp)
  have hc1 := hc1.keep fz (by simp)
  have hp2 := hp2.keep fz (by simp)
  have hc2 := hc2.keep fz (by simp)
  have hsh := rd_len (need := false) (xs := xs ++ ys) hxy
  rw [hD] at hsh
  simp only at hsh
  have gg : decide (g = g) = true := decide_eq_true rfl
  have z11 : decide ((1 : Int) = 1) = true := rfl
  have z10 : decide ((1 : Int) = 0) = false := rfl
  have fin := (same_spec _ _ D D _ ⟨p1, c1, rfl, hp1, hc1⟩ ⟨p2, c2, rfl, hp2, hc2⟩ (by omega) (by omega))
  rcases j2 with rfl | rfl
  · (repeat (first | refine st ?_ | (refine And.intro (by omega) ?_) | (refine AW.condT rfl rfl (by first | rfl | assumption) ?_) | (refine AW.condF rfl rfl (by first | rfl | assumption) ?_) | (refine AL.guT rfl (by first | rfl | assumption) ?_) | ((first | refine AL.ld rfl ?_ | refine AL.al ?_ | refine AL.lt rfl ?_ | refine AL.st rfl rfl ?_ | refine AL.ap rfl rfl ?_ | refine AL.ca rfl ?_ | refine AL.pu rfl ?_ | refine AL.guF rfl (by first | rfl | assumption) ?_ | refine AL.skip rfl ?_); simp (disch := omega) only [push_cast, ↓reduceIte, reduceCtorEq, Nat.reduceAdd, Nat.reduceMul, Nat.reduceLeDiff, Nat.reduceLT, Nat.reduceSub, Int.reduceNe, Int.reduceEq, Int.reduceLE, Int.reduceLT, Int.reduceToNat, op3, oc3, gg, de, z11, bx.ld, by_.ld, Bool.not_false, Bool.not_true, memE, boxE])))
    refine fin.mono ?_
    rintro r M6 ⟨hF6, rfl⟩
    rw [sameP_self]
    (repeat (first | refine st ?_ | (refine And.intro (by omega) ?_) | (refine AW.condT rfl rfl (by first | rfl | assumption) ?_) | (refine AW.condF rfl rfl (by first | rfl | assumption) ?_) | (refine AL.guT rfl (by first | rfl | assumption) ?_) | ((first | refine AL.ld rfl ?_ | refine AL.al ?_ | refine AL.lt rfl ?_ | refine AL.st rfl rfl ?_ | refine AL.ap rfl rfl ?_ | refine AL.ca rfl ?_ | refine AL.pu rfl ?_ | refine AL.guF rfl (by first | rfl | assumption) ?_ | refine AL.skip rfl ?_); simp (disch := omega) only [push_cast, ↓reduceIte, reduceCtorEq, Nat.reduceAdd, Nat.reduceMul, Nat.reduceLeDiff, Nat.reduceLT, Nat.reduceSub, Int.reduceNe, Int.reduceEq, Int.reduceLE, Int.reduceLT, Int.reduceToNat])))
    ((first | refine retA.ret (by rfl) ?_ | refine retA.normal (by rfl) ?_); simp (disch := omega) only [push_cast, ↓reduceIte, reduceCtorEq, Nat.reduceAdd, Nat.reduceMul, Nat.reduceLeDiff, Nat.reduceLT, Nat.reduceSub, Int.reduceNe, Int.reduceEq, Int.reduceLE, Int.reduceLT, Int.reduceToNat])
  · (repeat (first | refine st ?_ | (refine And.intro (by omega) ?_) | (refine AW.condT rfl rfl (by first | rfl | assumption) ?_) | (refine AW.condF rfl rfl (by first | rfl | assumption) ?_) | (refine AL.guT rfl (by first | rfl | assumption) ?_) | ((first | refine AL.ld rfl ?_ | refine AL.al ?_ | refine AL.lt rfl ?_ | refine AL.st rfl rfl ?_ | refine AL.ap rfl rfl ?_ | refine AL.ca rfl ?_ | refine AL.pu rfl ?_ | refine AL.guF rfl (by first | rfl | assumption) ?_ | refine AL.skip rfl ?_); simp (disch := omega) only [push_cast, ↓reduceIte, reduceCtorEq, Nat.reduceAdd, Nat.reduceMul, Nat.reduceLeDiff, Nat.reduceLT, Nat.reduceSub, Int.reduceNe, Int.reduceEq, Int.reduceLE, Int.reduceLT, Int.reduceToNat, op3, oc3, gg, z10, z11, bx.ld, by_.ld, Bool.not_false, Bool.not_true, memE, boxE])))
    refine fin.mono ?_
    rintro r M6 ⟨hF6, rfl⟩
    rw [sameP_self]
    (repeat (first | refine st ?_ | (refine And.intro (by omega) ?_) | (refine AW.condT rfl rfl (by first | rfl | assumption) ?_) | (refine AW.condF rfl rfl (by first | rfl | assumption) ?_) | (refine AL.guT rfl (by first | rfl | assumption) ?_) | ((first | refine AL.ld rfl ?_ | refine AL.al ?_ | refine AL.lt rfl ?_ | refine AL.st rfl rfl ?_ | refine AL.ap rfl rfl ?_ | refine AL.ca rfl ?_ | refine AL.pu rfl ?_ | refine AL.guF rfl (by first | rfl | assumption) ?_ | refine AL.skip rfl ?_); simp (disch := omega) only [push_cast, ↓reduceIte, reduceCtorEq, Nat.reduceAdd, Nat.reduceMul, Nat.reduceLeDiff, Nat.reduceLT, Nat.reduceSub, Int.reduceNe, Int.reduceEq, Int.reduceLE, Int.reduceLT, Int.reduceToNat])))
    ((first | refine retA.ret (by rfl) ?_ | refine retA.normal (by rfl) ?_); simp (disch := omega) only [push_cast, ↓reduceIte, reduceCtorEq, Nat.reduceAdd, Nat.reduceMul, Nat.reduceLeDiff, Nat.reduceLT, Nat.reduceSub, Int.reduceNe, Int.reduceEq, Int.reduceLE, Int.reduceLT, Int.reduceToNat])

end Go.Proofs.Ytbjipdmbdabniaa.Ax
