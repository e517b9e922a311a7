/- Contracts of functions over the abstract machine. No conditions: lemmas alone. -/
import Derived.Test.YtbjipdmbdabniaaAttrBackLibD
import Derived.Test.YtbjipdmbdabniaaAttrBackAr6
import Derived.Test.YtbjipdmbdabniaaAttrBackAr5
import Derived.Test.YtbjipdmbdabniaaAttrBackRd
namespace Go.Proofs.Ytbjipdmbdabniaa.Ax
open Go Go.RowKit
set_option linter.unusedVariables false
set_option linter.unusedSimpArgs false
set_option maxRecDepth 100000
set_option maxHeartbeats 20000000
attribute [local irreducible] thenA blockA scopeA retA AL AW AD ADL AH clrK CallA apure aload bload appK ptrK fnK ares szOk planOk okOps
theorem sameP_self (a : AV) : sameP a a = true := by simp [sameP]
theorem Sl.lit (M : Mem) (n : Nat) (xs : List Int) (h : n = xs.length) (hn : n < capLow) : Sl (M ++ [.row true 1 (ints .u8 xs)]) (.slice (some ⟨M.length, 0, none⟩) n n) 1 (ints .u8 xs) := (New.row M (by omega) (by rw [ints_length]; omega) (ints_one _ _) hn).sl
/-- A call of Read. -/
theorem readKn {v : Value} {xs : List Int} {need : Bool} {M : Mem} {A : AV} {e : Int} {K : Value → Mem → Prop} (hv : Sl M v 1 (ints .u8 xs)) (hx : xs.length ≤ 100000) (hb : ∀ x ∈ xs, 0 ≤ x ∧ x ≤ 255) (h : rdP need xs = (A, e))
    (hK : ∀ M' p c, Fr M M' [] → Sl M' p 1 (ints .u32 A.path) → Sl M' c 1 (ints .u32 A.comms) → Value.oneCell' p = true → Value.oneCell' c = true → (∀ b ∈ blkOf p, M.length ≤ b) → (∀ b ∈ blkOf c, M.length ≤ b) → K (.tuple ⟨[.agg ⟨avL A p c⟩, .int .i64 e]⟩) M') : CallA Try.prog 9 [v, .bool need] M K := by
  refine (read_spec v xs need M hv hx hb).mono ?_
  rintro r M' ⟨hF, w, rfl, hA⟩
  have h' : readP need (xs.length + 1) xs (fun _ => false) AV.zero = (A, e) := h
  rw [h'] at hA ⊢
  obtain ⟨p, c, rfl, hp, hc, hpb, hcb⟩ := hA
  exact hK M' p c hF hp hc (isSl_one hp.isSl) (isSl_one hc.isSl) hpb hcb
theorem readK {v : Value} {xs : List Int} {need : Bool} {M : Mem} {A : AV} {e : Int} {K : Value → Mem → Prop} (hv : Sl M v 1 (ints .u8 xs)) (hx : xs.length ≤ 100000) (hb : ∀ x ∈ xs, 0 ≤ x ∧ x ≤ 255) (h : rdP need xs = (A, e))
    (hK : ∀ M' p c, Fr M M' [] → Sl M' p 1 (ints .u32 A.path) → Sl M' c 1 (ints .u32 A.comms) → Value.oneCell' p = true → Value.oneCell' c = true → K (.tuple ⟨[.agg ⟨avL A p c⟩, .int .i64 e]⟩) M') : CallA Try.prog 9 [v, .bool need] M K :=
  readKn hv hx hb h fun M' p c h1 h2 h3 h4 h5 _ _ => hK M' p c h1 h2 h3 h4 h5
theorem alive_spec (M : Mem) : CallA Try.prog 8 [] M fun r M' => Fr M M' [] ∧ r = .bool true := by
  have e1 : rdP true [64, 1, 1, 2, 64, 2, 0, 64, 3, 4, 10, 0, 0, 1] = (⟨2, [], 167772161, 0, 0, false, false, []⟩, 0) := by kernel_rfl
  have e2 : rdP true (([64, 1, 1, 2, 64, 2, 0, 64, 3, 4, 10, 0, 0, 1] : List Int).take 7) = (AV.zero, 3) := by kernel_rfl
  have e3 : rdP false [64, 1, 1, 3] = (AV.zero, 6) := by kernel_rfl
  have e4 : rdP false [128, 1, 1, 0] = (AV.zero, 4) := by kernel_rfl
  have e5 : rdP false [64, 99, 0] = (AV.zero, 2) := by kernel_rfl
  (refine CallA.of_body Try.func8 rfl (by rfl) ?_; simp only [Try.ntmps8, List.length_cons, List.length_nil, List.replicate, List.cons_append, List.nil_append, Nat.reduceSub, Nat.reduceAdd])
  (repeat (first | refine st ?_ | (refine And.intro (by omega) ?_) | (refine AL.guT rfl (by first | rfl | assumption) ?_) | ((first | refine AL.ld rfl ?_ | refine AL.al ?_ | refine AL.lt rfl ?_ | refine AL.st rfl rfl ?_ | refine AL.ca rfl ?_ | refine AL.slW (by kernel_rfl) rfl ?_ | refine AL.pu rfl ?_ | refine AL.guF rfl (by first | rfl | assumption) ?_ | refine AL.skip rfl ?_); simp (disch := omega) only [Option.some.injEq, TypeDesc.slice.injEq, exists_eq_left', push_cast, ↓reduceIte, reduceCtorEq, Nat.reduceAdd, Nat.reduceMul, Nat.reduceLeDiff, Nat.reduceLT, Nat.reduceSub, Int.reduceNe, Int.reduceEq, Int.reduceLE, Int.reduceLT, Int.reduceToNat])))
  have s1 := Sl.lit M 14 [64, 1, 1, 2, 64, 2, 0, 64, 3, 4, 10, 0, 0, 1] rfl (by decide)
  have f0 := Fr.push M (.row true 1 (ints .u8 [64, 1, 1, 2, 64, 2, 0, 64, 3, 4, 10, 0, 0, 1]))
  refine readK s1 (by decide) (by decide) e1 ?_
  intro M1 p1 c1 hF1 hp1 hc1 op1 oc1
  simp only [Value.oneCell'] at op1 oc1
  unfold avL
  have s1' := (s1.keep hF1 (by simp)).keep (Fr.push M1 (.box [.int .i64 2, p1, .int .u32 167772161, .int .u32 0, .int .u32 0, .bool false, .bool false, c1])) (by simp)
  obtain ⟨w7, hw7, p7⟩ := s1'.pcTo 7 (by decide)
  have hsz := s1'.sz
  have hw7' : aslice (.slice (some ⟨M.length, 0, none⟩) 14 14) 1 none (some (.int .i64 7)) none = some w7 := hw7
  have b1 := At.push M1 (.box [.int .i64 2, p1, .int .u32 167772161, .int .u32 0, .int .u32 0, .bool false, .bool false, c1])
  have f1 := (f0.tr hF1).tr (Fr.push M1 (.box [.int .i64 2, p1, .int .u32 167772161, .int .u32 0, .int .u32 0, .bool false, .bool false, c1]))
  (repeat (first | refine st ?_ | (refine And.intro (by omega) ?_) | (refine AL.guT rfl (by first | rfl | assumption) ?_) | ((first | refine AL.ld rfl ?_ | refine AL.al ?_ | refine AL.lt rfl ?_ | refine AL.st rfl rfl ?_ | refine AL.ca rfl ?_ | refine AL.slW (by kernel_rfl) rfl ?_ | refine AL.pu rfl ?_ | refine AL.guF rfl (by first | rfl | assumption) ?_ | refine AL.skip rfl ?_); simp (disch := omega) only [Option.some.injEq, TypeDesc.slice.injEq, exists_eq_left', push_cast, ↓reduceIte, reduceCtorEq, Nat.reduceAdd, Nat.reduceMul, Nat.reduceLeDiff, Nat.reduceLT, Nat.reduceSub, Int.reduceNe, Int.reduceEq, Int.reduceLE, Int.reduceLT, Int.reduceToNat, op1, oc1, hw7', hsz, Option.map_none, Option.map_some, memE, boxE])))
  refine readK p7.sl (by decide) (by decide) e2 ?_
  intro M2 p2 c2 hF2 hp2 hc2 op2 oc2
  simp only [Value.oneCell'] at op2 oc2
  unfold avL
  have b2 := b1.keep hF2 (by simp)
  have f2 := f1.tr hF2
  clear hF1 hp1 hc1 s1' p7 hsz hw7 hw7' b1 f1 hF2 hp2 hc2 s1 f0
  (repeat (first | refine st ?_ | (refine And.intro (by omega) ?_) | (refine AL.guT rfl (by first | rfl | assumption) ?_) | ((first | refine AL.ld rfl ?_ | refine AL.al ?_ | refine AL.lt rfl ?_ | refine AL.st rfl rfl ?_ | refine AL.ca rfl ?_ | refine AL.slW (by kernel_rfl) rfl ?_ | refine AL.pu rfl ?_ | refine AL.guF rfl (by first | rfl | assumption) ?_ | refine AL.skip rfl ?_); simp (disch := omega) only [Option.some.injEq, TypeDesc.slice.injEq, exists_eq_left', push_cast, ↓reduceIte, reduceCtorEq, Nat.reduceAdd, Nat.reduceMul, Nat.reduceLeDiff, Nat.reduceLT, Nat.reduceSub, Int.reduceNe, Int.reduceEq, Int.reduceLE, Int.reduceLT, Int.reduceToNat, op2, oc2, memE, boxE])))
  have s3 := Sl.lit (M2 ++ [.box (avL AV.zero p2 c2)]) 4 [64, 1, 1, 3] rfl (by decide)
  have f3 := (f2.tr (Fr.push M2 (.box (avL AV.zero p2 c2)))).tr (Fr.push _ (.row true 1 (ints .u8 [64, 1, 1, 3])))
  have b3 := (b2.keep (Fr.push M2 (.box (avL AV.zero p2 c2))) (by simp)).keep (Fr.push _ (.row true 1 (ints .u8 [64, 1, 1, 3]))) (by simp)
  refine readK s3 (by decide) (by decide) e3 ?_
  intro M3 p3 c3 hF3 hp3 hc3 op3 oc3
  simp only [Value.oneCell'] at op3 oc3
  have f3 := f3.tr hF3
  have b3 := b3.keep hF3 (by simp)
  unfold avL
  clear s3 hF3 hp3 hc3
  (repeat (first | refine st ?_ | (refine And.intro (by omega) ?_) | (refine AL.guT rfl (by first | rfl | assumption) ?_) | ((first | refine AL.ld rfl ?_ | refine AL.al ?_ | refine AL.lt rfl ?_ | refine AL.st rfl rfl ?_ | refine AL.ca rfl ?_ | refine AL.slW (by kernel_rfl) rfl ?_ | refine AL.pu rfl ?_ | refine AL.guF rfl (by first | rfl | assumption) ?_ | refine AL.skip rfl ?_); simp (disch := omega) only [Option.some.injEq, TypeDesc.slice.injEq, exists_eq_left', push_cast, ↓reduceIte, reduceCtorEq, Nat.reduceAdd, Nat.reduceMul, Nat.reduceLeDiff, Nat.reduceLT, Nat.reduceSub, Int.reduceNe, Int.reduceEq, Int.reduceLE, Int.reduceLT, Int.reduceToNat, op3, oc3, memE, boxE])))
  have s4 := Sl.lit (M3 ++ [.box (avL AV.zero p3 c3)]) 4 [128, 1, 1, 0] rfl (by decide)
  have f4 := (f3.tr (Fr.push M3 (.box (avL AV.zero p3 c3)))).tr (Fr.push _ (.row true 1 (ints .u8 [128, 1, 1, 0])))
  have b4 := (b3.keep (Fr.push M3 (.box (avL AV.zero p3 c3))) (by simp)).keep (Fr.push _ (.row true 1 (ints .u8 [128, 1, 1, 0]))) (by simp)
  refine readK s4 (by decide) (by decide) e4 ?_
  intro M4 p4 c4 hF4 hp4 hc4 op4 oc4
  simp only [Value.oneCell'] at op4 oc4
  have f4 := f4.tr hF4
  have b4 := b4.keep hF4 (by simp)
  unfold avL
  clear s4 hF4 hp4 hc4
  (repeat (first | refine st ?_ | (refine And.intro (by omega) ?_) | (refine AL.guT rfl (by first | rfl | assumption) ?_) | ((first | refine AL.ld rfl ?_ | refine AL.al ?_ | refine AL.lt rfl ?_ | refine AL.st rfl rfl ?_ | refine AL.ca rfl ?_ | refine AL.slW (by kernel_rfl) rfl ?_ | refine AL.pu rfl ?_ | refine AL.guF rfl (by first | rfl | assumption) ?_ | refine AL.skip rfl ?_); simp (disch := omega) only [Option.some.injEq, TypeDesc.slice.injEq, exists_eq_left', push_cast, ↓reduceIte, reduceCtorEq, Nat.reduceAdd, Nat.reduceMul, Nat.reduceLeDiff, Nat.reduceLT, Nat.reduceSub, Int.reduceNe, Int.reduceEq, Int.reduceLE, Int.reduceLT, Int.reduceToNat, op4, oc4, memE, boxE])))
  have s5 := Sl.lit (M4 ++ [.box (avL AV.zero p4 c4)]) 3 [64, 99, 0] rfl (by decide)
  have f5 := (f4.tr (Fr.push M4 (.box (avL AV.zero p4 c4)))).tr (Fr.push _ (.row true 1 (ints .u8 [64, 99, 0])))
  have b5 := (b4.keep (Fr.push M4 (.box (avL AV.zero p4 c4))) (by simp)).keep (Fr.push _ (.row true 1 (ints .u8 [64, 99, 0]))) (by simp)
  refine readK s5 (by decide) (by decide) e5 ?_
  intro M5 p5 c5 hF5 hp5 hc5 op5 oc5
  simp only [Value.oneCell'] at op5 oc5
  have f5 := f5.tr hF5
  have b5 := b5.keep hF5 (by simp)
  unfold avL
  clear s5 hF5 hp5 hc5
  have b6 := (b5.keep (Fr.push M5 (.box [.int .i64 AV.zero.origin, p5, .int .u32 AV.zero.hop, .int .u32 AV.zero.med, .int .u32 AV.zero.pref, .bool AV.zero.hasMed, .bool AV.zero.hasPref, c5])) (by simp))
  (repeat (first | refine st ?_ | (refine And.intro (by omega) ?_) | (refine AL.guT rfl (by first | rfl | assumption) ?_) | ((first | refine AL.ld rfl ?_ | refine AL.al ?_ | refine AL.lt rfl ?_ | refine AL.st rfl rfl ?_ | refine AL.ca rfl ?_ | refine AL.slW (by kernel_rfl) rfl ?_ | refine AL.pu rfl ?_ | refine AL.guF rfl (by first | rfl | assumption) ?_ | refine AL.skip rfl ?_); simp (disch := omega) only [Option.some.injEq, TypeDesc.slice.injEq, exists_eq_left', push_cast, ↓reduceIte, reduceCtorEq, Nat.reduceAdd, Nat.reduceMul, Nat.reduceLeDiff, Nat.reduceLT, Nat.reduceSub, Int.reduceNe, Int.reduceEq, Int.reduceLE, Int.reduceLT, Int.reduceToNat, op5, oc5, b6.ld, memE, boxE])))
  ((first | refine retA.ret (by rfl) ?_ | refine retA.normal (by rfl) ?_); simp (disch := omega) only [push_cast, ↓reduceIte, reduceCtorEq, Nat.reduceAdd, Nat.reduceMul, Nat.reduceLeDiff, Nat.reduceLT, Nat.reduceSub, Int.reduceNe, Int.reduceEq, Int.reduceLE, Int.reduceLT, Int.reduceToNat])
  exact f5.tr (Fr.push _ _)

end Go.Proofs.Ytbjipdmbdabniaa.Ax
