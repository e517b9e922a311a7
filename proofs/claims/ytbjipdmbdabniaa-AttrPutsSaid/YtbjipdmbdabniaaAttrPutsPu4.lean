/- Contracts of functions over the abstract machine. No conditions: lemmas alone. -/
import Derived.Test.YtbjipdmbdabniaaAttrPutsLibD
import Derived.Test.YtbjipdmbdabniaaAttrPutsPu2
namespace Go.Proofs.Ytbjipdmbdabniaa.Ax
open Go Go.RowKit
set_option linter.unusedVariables false
set_option linter.unusedSimpArgs false
set_option maxRecDepth 100000
set_option maxHeartbeats 20000000
attribute [local irreducible] thenA blockA scopeA retA AL AW AD ADL AH clrK CallA apure aload bload appK ptrK fnK ares szOk planOk okOps
/-- What has been written by now; the attributes lie at M's end. -/
structure RSt (M : Mem) (B : Blk) (w : Value) (out : List Int) (M' : Mem) : Prop where
  fr : Fr M M' []
  bx : At M' M.length B
  own : New M M' w 1 (ints .u8 out)
  blk : M.length ∉ blkOf w
theorem RSt.keep {M M' M2 : Mem} {B : Blk} {w : Value} {out : List Int} (h : RSt M B w out M') (f : Fr M' M2 []) : RSt M B w out M2 :=
  ⟨h.fr.tr f, h.bx.keep f (by simp), h.own.keep f (by simp), h.blk⟩
theorem oneP_lenR (fl k : Int) (v : List Int) : (oneP fl k v).length ≤ 4 + v.length := by unfold oneP; split <;> simp <;> omega
/-- One attribute more. -/
theorem roneK {M' : Mem} {v : Value} {ys : List Int} {fl k : Int} {K : Value → Mem → Prop} (hv : Sl M' v 1 (ints .u8 ys)) (hl : ys.length ≤ 65535) (h0 : 0 ≤ fl ∧ fl ≤ 192) (hK : ∀ r M2, New M' M2 r 1 (ints .u8 (oneP fl k ys)) → Fr M' M2 [] → K r M2) : CallA Try.prog 27 [.int .u8 fl, .int .u8 k, v] M' K :=
  (one_spec fl k v ys M' hv hl h0).mono fun r M2 ⟨h1, h2⟩ => hK r M2 h1 h2
theorem fourK {M : Mem} {x : Int} {K : Value → Mem → Prop} (hx : u32 x) (h : ∀ r M', New M M' r 1 (ints .u8 (foursL [x])) → Fr M M' [] → K r M') : CallA Try.prog 29 [.int .u32 x] M K :=
  (four_spec x M hx.1 hx.2).mono fun r M' ⟨h1, h2⟩ => h r M' (by rw [show foursL [x] = [x / 16777216, x / 65536 % 256, x / 256 % 256, x % 256] by simp [foursL]]; exact h1) h2
theorem rput_spec (a : AV) (p c : Value) (M : Mem) (hp : Sl M p 1 (ints .u32 a.path)) (hc : Sl M c 1 (ints .u32 a.comms)) (hg : goodAV a) (h1 : a.path.length ≤ 1000000) (h2 : a.comms.length ≤ 1000000) : CallA Try.prog 16 [.agg ⟨avL a p c⟩] M fun r M' => Fr M M' [] ∧
    ((rightP a ∧ ∃ w, r = .tuple ⟨[w, .int .i64 0]⟩ ∧ New M M' w 1 (ints .u8 (putP a))) ∨ (¬ rightP a ∧ r = .tuple ⟨[.slice none 0 0, .int .i64 4]⟩)) := by
  obtain ⟨g1, g2, g3, g4, g5⟩ := hg
  have fb := Fr.push M (.box (avL a p c))
  have bx := At.push M (.box (avL a p c))
  have op := isSl_one hp.isSl
  have oc := isSl_one hc.isSl
  simp only [Value.oneCell'] at op oc
  unfold avL at *
  (refine CallA.of_body Try.func16 rfl (by rfl) ?_; simp only [Try.ntmps16, List.length_cons, List.length_nil, List.replicate, List.cons_append, List.nil_append, Nat.reduceSub, Nat.reduceAdd])
  (repeat (first | refine st ?_ | refine ADL.hd rfl ?_ | (refine And.intro (by omega) ?_) | (refine AW.condT rfl rfl (by first | rfl | assumption) ?_) | (refine AW.condF rfl rfl (by first | rfl | assumption) ?_) | refine AW.dr (id := 6) (by rfl) [0, 1, 2, 3, 4, 5, 6, 7, 8, 9] (by kernel_rfl) (by kernel_rfl) ?_ | ((first | refine AL.ld rfl ?_ | refine AL.bx rfl ?_ | refine AL.lt rfl ?_ | refine AL.ap rfl rfl ?_ | refine AL.ca rfl ?_ | refine AL.pu rfl ?_ | refine AH.ld rfl ?_ | refine AH.bx rfl ?_ | refine AH.lt rfl ?_ | refine AH.apN rfl rfl (by kernel_rfl) ?_ | refine AH.ca (dst := some 25) rfl ?_ | refine AH.pu rfl rfl ?_); simp (disch := omega) only [push_cast, ↓reduceIte, reduceCtorEq, Nat.reduceAdd, Nat.reduceMul, Nat.reduceLeDiff, Nat.reduceLT, Nat.reduceSub, Int.reduceNe, Int.reduceEq, Int.reduceLE, Int.reduceLT, Int.reduceToNat, buildE, memE, boxE])))
  refine (rright2_spec a p c _ (hp.keep fb (by simp)) (hc.keep fb (by simp)) (by omega) (by omega)).mono ?_
  rintro r M1 ⟨hF1, rfl⟩
  have hF := fb.tr hF1
  have bx1 := bx.keep hF1 (by simp)
  by_cases hr : rightP a
  rotate_left
  · have d : decide (rightP a) = false := decide_eq_false hr
    rw [d]
    (repeat (first | refine st ?_ | refine ADL.hd rfl ?_ | (refine And.intro (by omega) ?_) | (refine AW.condT rfl rfl (by first | rfl | assumption) ?_) | (refine AW.condF rfl rfl (by first | rfl | assumption) ?_) | refine AW.dr (id := 6) (by rfl) [0, 1, 2, 3, 4, 5, 6, 7, 8, 9] (by kernel_rfl) (by kernel_rfl) ?_ | ((first | refine AL.ld rfl ?_ | refine AL.bx rfl ?_ | refine AL.lt rfl ?_ | refine AL.ap rfl rfl ?_ | refine AL.ca rfl ?_ | refine AL.pu rfl ?_ | refine AH.ld rfl ?_ | refine AH.bx rfl ?_ | refine AH.lt rfl ?_ | refine AH.apN rfl rfl (by kernel_rfl) ?_ | refine AH.ca (dst := some 25) rfl ?_ | refine AH.pu rfl rfl ?_); simp (disch := omega) only [push_cast, ↓reduceIte, reduceCtorEq, Nat.reduceAdd, Nat.reduceMul, Nat.reduceLeDiff, Nat.reduceLT, Nat.reduceSub, Int.reduceNe, Int.reduceEq, Int.reduceLE, Int.reduceLT, Int.reduceToNat, Bool.not_false])))
    ((first | refine retA.ret (by rfl) ?_ | refine retA.normal (by rfl) ?_); simp (disch := omega) only [push_cast, ↓reduceIte, reduceCtorEq, Nat.reduceAdd, Nat.reduceMul, Nat.reduceLeDiff, Nat.reduceLT, Nat.reduceSub, Int.reduceNe, Int.reduceEq, Int.reduceLE, Int.reduceLT, Int.reduceToNat])
    exact ⟨hF, .inr hr⟩
  have d : decide (rightP a) = true := decide_eq_true hr
  rw [d]
  have r5 := hr.2.2.2.2.1
  have r6 := hr.2.2.2.2.2.1
  have wu : IntKind.u8.wrap a.origin = a.origin := w_u8 (by omega) (by omega)
  have hpl := hr.2.1
  have hcl := hr.2.2.1
  have n1 := oneP_lenR 64 1 [a.origin]
  have n2 := oneP_lenR 64 2 (pathB a.path)
  have n2b := pathB_length a.path
  have n3 := oneP_lenR 64 3 (foursL [a.hop])
  have n4 := oneP_lenR 128 4 (foursL [a.med])
  have n5 := oneP_lenR 64 5 (foursL [a.pref])
  have n8 := oneP_lenR 192 8 (foursL a.comms)
  rw [foursL_length] at n3 n4 n5 n8
  simp only [List.length_cons, List.length_nil] at n1 n3 n4 n5
  (repeat (first | refine st ?_ | refine ADL.hd rfl ?_ | (refine And.intro (by omega) ?_) | (refine AW.condT rfl rfl (by first | rfl | assumption) ?_) | (refine AW.condF rfl rfl (by first | rfl | assumption) ?_) | refine AW.dr (id := 6) (by rfl) [0, 1, 2, 3, 4, 5, 6, 7, 8, 9] (by kernel_rfl) (by kernel_rfl) ?_ | ((first | refine AL.ld rfl ?_ | refine AL.bx rfl ?_ | refine AL.lt rfl ?_ | refine AL.ap rfl rfl ?_ | refine AL.ca rfl ?_ | refine AL.pu rfl ?_ | refine AH.ld rfl ?_ | refine AH.bx rfl ?_ | refine AH.lt rfl ?_ | refine AH.apN rfl rfl (by kernel_rfl) ?_ | refine AH.ca (dst := some 25) rfl ?_ | refine AH.pu rfl rfl ?_); simp (disch := omega) only [push_cast, ↓reduceIte, reduceCtorEq, Nat.reduceAdd, Nat.reduceMul, Nat.reduceLeDiff, Nat.reduceLT, Nat.reduceSub, Int.reduceNe, Int.reduceEq, Int.reduceLE, Int.reduceLT, Int.reduceToNat, bx1.ld, wu, Bool.not_true])))
  have r0 := New.lit M1 1 [a.origin] rfl (by decide)
  refine roneK r0.sl (by simp) (by omega) ?_
  intro w1 M2 hN2 hF2
  have F12 := (Fr.push M1 (.row true 1 (ints .u8 [a.origin]))).tr hF2
  have W1 : RSt M (.box [.int .i64 a.origin, p, .int .u32 a.hop, .int .u32 a.med, .int .u32 a.pref, .bool a.hasMed, .bool a.hasPref, c]) w1 (oneP 64 1 [a.origin]) M2 := ⟨hF.tr F12, bx1.keep F12 (by simp), hN2.after ((hF.tr (Fr.push M1 _))), fun h => by have := hN2.blk _ h; have := bx1.lt; simp at *; omega⟩
  have hp3 := hp.keep W1.fr (by simp)
  have hsp := hp.isSl
  have hnp := hp.lnI
  (repeat (first | refine st ?_ | refine ADL.hd rfl ?_ | (refine And.intro (by omega) ?_) | (refine AW.condT rfl rfl (by first | rfl | assumption) ?_) | (refine AW.condF rfl rfl (by first | rfl | assumption) ?_) | refine AW.dr (id := 6) (by rfl) [0, 1, 2, 3, 4, 5, 6, 7, 8, 9] (by kernel_rfl) (by kernel_rfl) ?_ | ((first | refine AL.ld rfl ?_ | refine AL.bx rfl ?_ | refine AL.lt rfl ?_ | refine AL.ap rfl rfl ?_ | refine AL.ca rfl ?_ | refine AL.pu rfl ?_ | refine AH.ld rfl ?_ | refine AH.bx rfl ?_ | refine AH.lt rfl ?_ | refine AH.apN rfl rfl (by kernel_rfl) ?_ | refine AH.ca (dst := some 25) rfl ?_ | refine AH.pu rfl rfl ?_); simp (disch := omega) only [push_cast, ↓reduceIte, reduceCtorEq, Nat.reduceAdd, Nat.reduceMul, Nat.reduceLeDiff, Nat.reduceLT, Nat.reduceSub, Int.reduceNe, Int.reduceEq, Int.reduceLE, Int.reduceLT, Int.reduceToNat, W1.bx.ld, hsp, hnp])))
  refine AW.joinF [5, 18, 19, 20, 21, 22, 23, 24, 25, 26] (fun g M' => RSt M (.box [.int .i64 a.origin, p, .int .u32 a.hop, .int .u32 a.med, .int .u32 a.pref, .bool a.hasMed, .bool a.hasPref, c]) w1 (oneP 64 1 [a.origin]) M' ∧ Sl M' (g 5) 1 (ints .u8 (pathB a.path))) ?_ ?_
  · by_cases cp : a.path = []
    · have d : decide ((a.path.length : Int) > 0) = false := by rw [cp]; rfl
      (repeat (first | refine st ?_ | refine ADL.hd rfl ?_ | (refine And.intro (by omega) ?_) | (refine AW.condT rfl rfl (by first | rfl | assumption) ?_) | (refine AW.condF rfl rfl (by first | rfl | assumption) ?_) | refine AW.dr (id := 6) (by rfl) [0, 1, 2, 3, 4, 5, 6, 7, 8, 9] (by kernel_rfl) (by kernel_rfl) ?_ | ((first | refine AL.ld rfl ?_ | refine AL.bx rfl ?_ | refine AL.lt rfl ?_ | refine AL.ap rfl rfl ?_ | refine AL.ca rfl ?_ | refine AL.pu rfl ?_ | refine AH.ld rfl ?_ | refine AH.bx rfl ?_ | refine AH.lt rfl ?_ | refine AH.apN rfl rfl (by kernel_rfl) ?_ | refine AH.ca (dst := some 25) rfl ?_ | refine AH.pu rfl rfl ?_); simp (disch := omega) only [push_cast, ↓reduceIte, reduceCtorEq, Nat.reduceAdd, Nat.reduceMul, Nat.reduceLeDiff, Nat.reduceLT, Nat.reduceSub, Int.reduceNe, Int.reduceEq, Int.reduceLE, Int.reduceLT, Int.reduceToNat, d])))
      refine ⟨rfl, W1, ?_⟩
      rw [cp]
      exact Sl.nil _ (by omega)
    · have d : decide ((a.path.length : Int) > 0) = true := decide_eq_true (by have := List.length_pos_iff.2 cp; omega)
      have wn : IntKind.u8.wrap (a.path.length : Int) = a.path.length := w_u8 (by omega) (by omega)
      have W2 := W1.keep (Fr.push M2 (.row true 1 [.int .u8 2, .int .u8 (a.path.length : Int)]))
      (repeat (first | refine st ?_ | refine ADL.hd rfl ?_ | (refine And.intro (by omega) ?_) | (refine AW.condT rfl rfl (by first | rfl | assumption) ?_) | (refine AW.condF rfl rfl (by first | rfl | assumption) ?_) | refine AW.dr (id := 6) (by rfl) [0, 1, 2, 3, 4, 5, 6, 7, 8, 9] (by kernel_rfl) (by kernel_rfl) ?_ | ((first | refine AL.ld rfl ?_ | refine AL.bx rfl ?_ | refine AL.lt rfl ?_ | refine AL.ap rfl rfl ?_ | refine AL.ca rfl ?_ | refine AL.pu rfl ?_ | refine AH.ld rfl ?_ | refine AH.bx rfl ?_ | refine AH.lt rfl ?_ | refine AH.apN rfl rfl (by kernel_rfl) ?_ | refine AH.ca (dst := some 25) rfl ?_ | refine AH.pu rfl rfl ?_); simp (disch := omega) only [push_cast, ↓reduceIte, reduceCtorEq, Nat.reduceAdd, Nat.reduceMul, Nat.reduceLeDiff, Nat.reduceLT, Nat.reduceSub, Int.reduceNe, Int.reduceEq, Int.reduceLE, Int.reduceLT, Int.reduceToNat, d, wn, W1.bx.ld, W2.bx.ld, hsp, hnp])))
      have r0 := New.lit M2 2 [2, (a.path.length : Int)] rfl (by decide)
      refine (fours_spec p a.path _ (hp3.keep (Fr.push M2 (.row true 1 [.int .u8 2, .int .u8 (a.path.length : Int)])) (by simp)) g1 h1).mono ?_
      rintro r M4 ⟨hN4, hF4⟩
      refine ⟨hF4, ?_⟩
      (repeat (first | refine st ?_ | refine ADL.hd rfl ?_ | (refine And.intro (by omega) ?_) | (refine AW.condT rfl rfl (by first | rfl | assumption) ?_) | (refine AW.condF rfl rfl (by first | rfl | assumption) ?_) | refine AW.dr (id := 6) (by rfl) [0, 1, 2, 3, 4, 5, 6, 7, 8, 9] (by kernel_rfl) (by kernel_rfl) ?_ | ((first | refine AL.ld rfl ?_ | refine AL.bx rfl ?_ | refine AL.lt rfl ?_ | refine AL.ap rfl rfl ?_ | refine AL.ca rfl ?_ | refine AL.pu rfl ?_ | refine AH.ld rfl ?_ | refine AH.bx rfl ?_ | refine AH.lt rfl ?_ | refine AH.apN rfl rfl (by kernel_rfl) ?_ | refine AH.ca (dst := some 25) rfl ?_ | refine AH.pu rfl rfl ?_); simp (disch := omega) only [push_cast, ↓reduceIte, reduceCtorEq, Nat.reduceAdd, Nat.reduceMul, Nat.reduceLeDiff, Nat.reduceLT, Nat.reduceSub, Int.reduceNe, Int.reduceEq, Int.reduceLE, Int.reduceLT, Int.reduceToNat])))
      have fl4 := foursL_length a.path
      refine appK.ints (P := Try.prog) (e := 5) (bt := 1) (z := .int .u8 0) (by kernel_rfl) (by kernel_rfl) (by kernel_rfl) (by kernel_rfl) (by decide) (r0.1.keep hF4 (by simp)) hN4.sl (by simp; omega) ?_
      intro v5 M5 hN5 hF5
      (repeat (first | refine st ?_ | refine ADL.hd rfl ?_ | (refine And.intro (by omega) ?_) | (refine AW.condT rfl rfl (by first | rfl | assumption) ?_) | (refine AW.condF rfl rfl (by first | rfl | assumption) ?_) | refine AW.dr (id := 6) (by rfl) [0, 1, 2, 3, 4, 5, 6, 7, 8, 9] (by kernel_rfl) (by kernel_rfl) ?_ | ((first | refine AL.ld rfl ?_ | refine AL.bx rfl ?_ | refine AL.lt rfl ?_ | refine AL.ap rfl rfl ?_ | refine AL.ca rfl ?_ | refine AL.pu rfl ?_ | refine AH.ld rfl ?_ | refine AH.bx rfl ?_ | refine AH.lt rfl ?_ | refine AH.apN rfl rfl (by kernel_rfl) ?_ | refine AH.ca (dst := some 25) rfl ?_ | refine AH.pu rfl rfl ?_); simp (disch := omega) only [push_cast, ↓reduceIte, reduceCtorEq, Nat.reduceAdd, Nat.reduceMul, Nat.reduceLeDiff, Nat.reduceLT, Nat.reduceSub, Int.reduceNe, Int.reduceEq, Int.reduceLE, Int.reduceLT, Int.reduceToNat])))
      have F35 : Fr M2 M5 [] := ((Fr.push M2 _).tr hF4).new (r0.keep hF4 (by simp)) hF5
      have e : pathB a.path = [2, (a.path.length : Int)] ++ foursL a.path := by unfold pathB; rw [if_neg cp]; rfl
      rw [e]
      exact ⟨rfl, W1.keep F35, hN5.sl⟩
  rintro g M3 ⟨W2, hseg⟩
  -- one attribute more
  have more : ∀ {M' : Mem} {w w' : Value} {out ys : List Int} {B : Blk} {C : Value → Mem → Prop}, RSt M B w out M' → ∀ {M2 : Mem}, New M' M2 w' 1 (ints .u8 ys) → Fr M' M2 [] → out.length ≤ 3000 → ys.length ≤ 3000 →
      (∀ v M3, RSt M B v (out ++ ys) M3 → C v M3) → appK Try.prog 22 22 w w' M2 C := by
    intro M' w w' out ys B C hR M2 hN hF l1 l2 hC
    have hR2 := hR.keep hF
    refine appK.ints (P := Try.prog) (e := 5) (bt := 1) (z := .int .u8 0) (by kernel_rfl) (by kernel_rfl) (by kernel_rfl) (by kernel_rfl) (by decide) hR2.own.1 hN.sl (by omega) ?_
    intro v M3 hN3 hF3
    have F3 : Fr M M3 [] := hR2.fr.new hR2.own hF3
    exact hC v M3 ⟨F3, hR2.bx.keep hF3 hR2.blk, hN3.after hR2.fr, fun h => by have := hN3.blk _ h; have := hR2.bx.lt; omega⟩
  (repeat (first | refine st ?_ | refine ADL.hd rfl ?_ | (refine And.intro (by omega) ?_) | (refine AW.condT rfl rfl (by first | rfl | assumption) ?_) | (refine AW.condF rfl rfl (by first | rfl | assumption) ?_) | refine AW.dr (id := 6) (by rfl) [0, 1, 2, 3, 4, 5, 6, 7, 8, 9] (by kernel_rfl) (by kernel_rfl) ?_ | ((first | refine AL.ld rfl ?_ | refine AL.bx rfl ?_ | refine AL.lt rfl ?_ | refine AL.ap rfl rfl ?_ | refine AL.ca rfl ?_ | refine AL.pu rfl ?_ | refine AH.ld rfl ?_ | refine AH.bx rfl ?_ | refine AH.lt rfl ?_ | refine AH.apN rfl rfl (by kernel_rfl) ?_ | refine AH.ca (dst := some 25) rfl ?_ | refine AH.pu rfl rfl ?_); simp (disch := omega) only [push_cast, ↓reduceIte, reduceCtorEq, Nat.reduceAdd, Nat.reduceMul, Nat.reduceLeDiff, Nat.reduceLT, Nat.reduceSub, Int.reduceNe, Int.reduceEq, Int.reduceLE, Int.reduceLT, Int.reduceToNat])))
  refine roneK hseg (by omega) (by omega) ?_
  intro w2 M4 hN4 hF4
  (repeat (first | refine st ?_ | refine ADL.hd rfl ?_ | (refine And.intro (by omega) ?_) | (refine AW.condT rfl rfl (by first | rfl | assumption) ?_) | (refine AW.condF rfl rfl (by first | rfl | assumption) ?_) | refine AW.dr (id := 6) (by rfl) [0, 1, 2, 3, 4, 5, 6, 7, 8, 9] (by kernel_rfl) (by kernel_rfl) ?_ | ((first | refine AL.ld rfl ?_ | refine AL.bx rfl ?_ | refine AL.lt rfl ?_ | refine AL.ap rfl rfl ?_ | refine AL.ca rfl ?_ | refine AL.pu rfl ?_ | refine AH.ld rfl ?_ | refine AH.bx rfl ?_ | refine AH.lt rfl ?_ | refine AH.apN rfl rfl (by kernel_rfl) ?_ | refine AH.ca (dst := some 25) rfl ?_ | refine AH.pu rfl rfl ?_); simp (disch := omega) only [push_cast, ↓reduceIte, reduceCtorEq, Nat.reduceAdd, Nat.reduceMul, Nat.reduceLeDiff, Nat.reduceLT, Nat.reduceSub, Int.reduceNe, Int.reduceEq, Int.reduceLE, Int.reduceLT, Int.reduceToNat])))
  refine more W2 hN4 hF4 (by omega) (by omega) ?_
  intro w3 M5 W3
  (repeat (first | refine st ?_ | refine ADL.hd rfl ?_ | (refine And.intro (by omega) ?_) | (refine AW.condT rfl rfl (by first | rfl | assumption) ?_) | (refine AW.condF rfl rfl (by first | rfl | assumption) ?_) | refine AW.dr (id := 6) (by rfl) [0, 1, 2, 3, 4, 5, 6, 7, 8, 9] (by kernel_rfl) (by kernel_rfl) ?_ | ((first | refine AL.ld rfl ?_ | refine AL.bx rfl ?_ | refine AL.lt rfl ?_ | refine AL.ap rfl rfl ?_ | refine AL.ca rfl ?_ | refine AL.pu rfl ?_ | refine AH.ld rfl ?_ | refine AH.bx rfl ?_ | refine AH.lt rfl ?_ | refine AH.apN rfl rfl (by kernel_rfl) ?_ | refine AH.ca (dst := some 25) rfl ?_ | refine AH.pu rfl rfl ?_); simp (disch := omega) only [push_cast, ↓reduceIte, reduceCtorEq, Nat.reduceAdd, Nat.reduceMul, Nat.reduceLeDiff, Nat.reduceLT, Nat.reduceSub, Int.reduceNe, Int.reduceEq, Int.reduceLE, Int.reduceLT, Int.reduceToNat, W3.bx.ld])))
  refine fourK g2 ?_
  intro r M6 hN6 hF6
  (repeat (first | refine st ?_ | refine ADL.hd rfl ?_ | (refine And.intro (by omega) ?_) | (refine AW.condT rfl rfl (by first | rfl | assumption) ?_) | (refine AW.condF rfl rfl (by first | rfl | assumption) ?_) | refine AW.dr (id := 6) (by rfl) [0, 1, 2, 3, 4, 5, 6, 7, 8, 9] (by kernel_rfl) (by kernel_rfl) ?_ | ((first | refine AL.ld rfl ?_ | refine AL.bx rfl ?_ | refine AL.lt rfl ?_ | refine AL.ap rfl rfl ?_ | refine AL.ca rfl ?_ | refine AL.pu rfl ?_ | refine AH.ld rfl ?_ | refine AH.bx rfl ?_ | refine AH.lt rfl ?_ | refine AH.apN rfl rfl (by kernel_rfl) ?_ | refine AH.ca (dst := some 25) rfl ?_ | refine AH.pu rfl rfl ?_); simp (disch := omega) only [push_cast, ↓reduceIte, reduceCtorEq, Nat.reduceAdd, Nat.reduceMul, Nat.reduceLeDiff, Nat.reduceLT, Nat.reduceSub, Int.reduceNe, Int.reduceEq, Int.reduceLE, Int.reduceLT, Int.reduceToNat])))
  refine roneK hN6.sl (by rw [foursL_length]; simp) (by omega) ?_
  intro w4 M7 hN7 hF7
  (repeat (first | refine st ?_ | refine ADL.hd rfl ?_ | (refine And.intro (by omega) ?_) | (refine AW.condT rfl rfl (by first | rfl | assumption) ?_) | (refine AW.condF rfl rfl (by first | rfl | assumption) ?_) | refine AW.dr (id := 6) (by rfl) [0, 1, 2, 3, 4, 5, 6, 7, 8, 9] (by kernel_rfl) (by kernel_rfl) ?_ | ((first | refine AL.ld rfl ?_ | refine AL.bx rfl ?_ | refine AL.lt rfl ?_ | refine AL.ap rfl rfl ?_ | refine AL.ca rfl ?_ | refine AL.pu rfl ?_ | refine AH.ld rfl ?_ | refine AH.bx rfl ?_ | refine AH.lt rfl ?_ | refine AH.apN rfl rfl (by kernel_rfl) ?_ | refine AH.ca (dst := some 25) rfl ?_ | refine AH.pu rfl rfl ?_); simp (disch := omega) only [push_cast, ↓reduceIte, reduceCtorEq, Nat.reduceAdd, Nat.reduceMul, Nat.reduceLeDiff, Nat.reduceLT, Nat.reduceSub, Int.reduceNe, Int.reduceEq, Int.reduceLE, Int.reduceLT, Int.reduceToNat])))
  refine more (W3.keep hF6) hN7 hF7 (by simp only [List.length_append]; omega) (by omega) ?_
  intro w5 M8 W4
  (repeat (first | refine st ?_ | refine ADL.hd rfl ?_ | (refine And.intro (by omega) ?_) | (refine AW.condT rfl rfl (by first | rfl | assumption) ?_) | (refine AW.condF rfl rfl (by first | rfl | assumption) ?_) | refine AW.dr (id := 6) (by rfl) [0, 1, 2, 3, 4, 5, 6, 7, 8, 9] (by kernel_rfl) (by kernel_rfl) ?_ | ((first | refine AL.ld rfl ?_ | refine AL.bx rfl ?_ | refine AL.lt rfl ?_ | refine AL.ap rfl rfl ?_ | refine AL.ca rfl ?_ | refine AL.pu rfl ?_ | refine AH.ld rfl ?_ | refine AH.bx rfl ?_ | refine AH.lt rfl ?_ | refine AH.apN rfl rfl (by kernel_rfl) ?_ | refine AH.ca (dst := some 25) rfl ?_ | refine AH.pu rfl rfl ?_); simp (disch := omega) only [push_cast, ↓reduceIte, reduceCtorEq, Nat.reduceAdd, Nat.reduceMul, Nat.reduceLeDiff, Nat.reduceLT, Nat.reduceSub, Int.reduceNe, Int.reduceEq, Int.reduceLE, Int.reduceLT, Int.reduceToNat, W4.bx.ld])))
  refine AW.joinF [4, 39, 40, 41, 42, 43, 44] (fun g M' => RSt M (.box [.int .i64 a.origin, p, .int .u32 a.hop, .int .u32 a.med, .int .u32 a.pref, .bool a.hasMed, .bool a.hasPref, c]) (g 4) (oneP 64 1 [a.origin] ++ oneP 64 2 (pathB a.path) ++ oneP 64 3 (foursL [a.hop]) ++ (if a.hasMed = true then oneP 128 4 (foursL [a.med]) else [])) M') ?_ ?_
  · cases hm : a.hasMed with
    | false =>
      rw [hm] at W4
      (repeat (first | refine st ?_ | refine ADL.hd rfl ?_ | (refine And.intro (by omega) ?_) | (refine AW.condT rfl rfl (by first | rfl | assumption) ?_) | (refine AW.condF rfl rfl (by first | rfl | assumption) ?_) | refine AW.dr (id := 6) (by rfl) [0, 1, 2, 3, 4, 5, 6, 7, 8, 9] (by kernel_rfl) (by kernel_rfl) ?_ | ((first | refine AL.ld rfl ?_ | refine AL.bx rfl ?_ | refine AL.lt rfl ?_ | refine AL.ap rfl rfl ?_ | refine AL.ca rfl ?_ | refine AL.pu rfl ?_ | refine AH.ld rfl ?_ | refine AH.bx rfl ?_ | refine AH.lt rfl ?_ | refine AH.apN rfl rfl (by kernel_rfl) ?_ | refine AH.ca (dst := some 25) rfl ?_ | refine AH.pu rfl rfl ?_); simp (disch := omega) only [push_cast, ↓reduceIte, reduceCtorEq, Nat.reduceAdd, Nat.reduceMul, Nat.reduceLeDiff, Nat.reduceLT, Nat.reduceSub, Int.reduceNe, Int.reduceEq, Int.reduceLE, Int.reduceLT, Int.reduceToNat])))
      exact ⟨(over_self _ _).symm, by simpa using W4⟩
    | true =>
      rw [hm] at W4
      (repeat (first | refine st ?_ | refine ADL.hd rfl ?_ | (refine And.intro (by omega) ?_) | (refine AW.condT rfl rfl (by first | rfl | assumption) ?_) | (refine AW.condF rfl rfl (by first | rfl | assumption) ?_) | refine AW.dr (id := 6) (by rfl) [0, 1, 2, 3, 4, 5, 6, 7, 8, 9] (by kernel_rfl) (by kernel_rfl) ?_ | ((first | refine AL.ld rfl ?_ | refine AL.bx rfl ?_ | refine AL.lt rfl ?_ | refine AL.ap rfl rfl ?_ | refine AL.ca rfl ?_ | refine AL.pu rfl ?_ | refine AH.ld rfl ?_ | refine AH.bx rfl ?_ | refine AH.lt rfl ?_ | refine AH.apN rfl rfl (by kernel_rfl) ?_ | refine AH.ca (dst := some 25) rfl ?_ | refine AH.pu rfl rfl ?_); simp (disch := omega) only [push_cast, ↓reduceIte, reduceCtorEq, Nat.reduceAdd, Nat.reduceMul, Nat.reduceLeDiff, Nat.reduceLT, Nat.reduceSub, Int.reduceNe, Int.reduceEq, Int.reduceLE, Int.reduceLT, Int.reduceToNat, W4.bx.ld])))
      refine fourK g3 ?_
      intro r M6 hN6 hF6
      (repeat (first | refine st ?_ | refine ADL.hd rfl ?_ | (refine And.intro (by omega) ?_) | (refine AW.condT rfl rfl (by first | rfl | assumption) ?_) | (refine AW.condF rfl rfl (by first | rfl | assumption) ?_) | refine AW.dr (id := 6) (by rfl) [0, 1, 2, 3, 4, 5, 6, 7, 8, 9] (by kernel_rfl) (by kernel_rfl) ?_ | ((first | refine AL.ld rfl ?_ | refine AL.bx rfl ?_ | refine AL.lt rfl ?_ | refine AL.ap rfl rfl ?_ | refine AL.ca rfl ?_ | refine AL.pu rfl ?_ | refine AH.ld rfl ?_ | refine AH.bx rfl ?_ | refine AH.lt rfl ?_ | refine AH.apN rfl rfl (by kernel_rfl) ?_ | refine AH.ca (dst := some 25) rfl ?_ | refine AH.pu rfl rfl ?_); simp (disch := omega) only [push_cast, ↓reduceIte, reduceCtorEq, Nat.reduceAdd, Nat.reduceMul, Nat.reduceLeDiff, Nat.reduceLT, Nat.reduceSub, Int.reduceNe, Int.reduceEq, Int.reduceLE, Int.reduceLT, Int.reduceToNat])))
      refine roneK hN6.sl (by rw [foursL_length]; simp) (by omega) ?_
      intro w4 M7 hN7 hF7
      (repeat (first | refine st ?_ | refine ADL.hd rfl ?_ | (refine And.intro (by omega) ?_) | (refine AW.condT rfl rfl (by first | rfl | assumption) ?_) | (refine AW.condF rfl rfl (by first | rfl | assumption) ?_) | refine AW.dr (id := 6) (by rfl) [0, 1, 2, 3, 4, 5, 6, 7, 8, 9] (by kernel_rfl) (by kernel_rfl) ?_ | ((first | refine AL.ld rfl ?_ | refine AL.bx rfl ?_ | refine AL.lt rfl ?_ | refine AL.ap rfl rfl ?_ | refine AL.ca rfl ?_ | refine AL.pu rfl ?_ | refine AH.ld rfl ?_ | refine AH.bx rfl ?_ | refine AH.lt rfl ?_ | refine AH.apN rfl rfl (by kernel_rfl) ?_ | refine AH.ca (dst := some 25) rfl ?_ | refine AH.pu rfl rfl ?_); simp (disch := omega) only [push_cast, ↓reduceIte, reduceCtorEq, Nat.reduceAdd, Nat.reduceMul, Nat.reduceLeDiff, Nat.reduceLT, Nat.reduceSub, Int.reduceNe, Int.reduceEq, Int.reduceLE, Int.reduceLT, Int.reduceToNat])))
      refine more (W4.keep hF6) hN7 hF7 (by simp only [List.length_append]; omega) (by omega) ?_
      intro w5 M8 W5
      (repeat (first | refine st ?_ | refine ADL.hd rfl ?_ | (refine And.intro (by omega) ?_) | (refine AW.condT rfl rfl (by first | rfl | assumption) ?_) | (refine AW.condF rfl rfl (by first | rfl | assumption) ?_) | refine AW.dr (id := 6) (by rfl) [0, 1, 2, 3, 4, 5, 6, 7, 8, 9] (by kernel_rfl) (by kernel_rfl) ?_ | ((first | refine AL.ld rfl ?_ | refine AL.bx rfl ?_ | refine AL.lt rfl ?_ | refine AL.ap rfl rfl ?_ | refine AL.ca rfl ?_ | refine AL.pu rfl ?_ | refine AH.ld rfl ?_ | refine AH.bx rfl ?_ | refine AH.lt rfl ?_ | refine AH.apN rfl rfl (by kernel_rfl) ?_ | refine AH.ca (dst := some 25) rfl ?_ | refine AH.pu rfl rfl ?_); simp (disch := omega) only [push_cast, ↓reduceIte, reduceCtorEq, Nat.reduceAdd, Nat.reduceMul, Nat.reduceLeDiff, Nat.reduceLT, Nat.reduceSub, Int.reduceNe, Int.reduceEq, Int.reduceLE, Int.reduceLT, Int.reduceToNat])))
      exact ⟨rfl, by simpa using W5⟩
  rintro g2 M9 W5
  have n4' : (if a.hasMed = true then oneP 128 4 (foursL [a.med]) else []).length ≤ 8 := by split; omega; simp
  generalize hout : oneP 64 1 [a.origin] ++ oneP 64 2 (pathB a.path) ++ oneP 64 3 (foursL [a.hop]) ++ (if a.hasMed = true then oneP 128 4 (foursL [a.med]) else []) = out4 at *
  have nout : out4.length ≤ 2000 := by rw [← hout]; simp only [List.length_append]; omega
  (repeat (first | refine st ?_ | refine ADL.hd rfl ?_ | (refine And.intro (by omega) ?_) | (refine AW.condT rfl rfl (by first | rfl | assumption) ?_) | (refine AW.condF rfl rfl (by first | rfl | assumption) ?_) | refine AW.dr (id := 6) (by rfl) [0, 1, 2, 3, 4, 5, 6, 7, 8, 9] (by kernel_rfl) (by kernel_rfl) ?_ | ((first | refine AL.ld rfl ?_ | refine AL.bx rfl ?_ | refine AL.lt rfl ?_ | refine AL.ap rfl rfl ?_ | refine AL.ca rfl ?_ | refine AL.pu rfl ?_ | refine AH.ld rfl ?_ | refine AH.bx rfl ?_ | refine AH.lt rfl ?_ | refine AH.apN rfl rfl (by kernel_rfl) ?_ | refine AH.ca (dst := some 25) rfl ?_ | refine AH.pu rfl rfl ?_); simp (disch := omega) only [push_cast, ↓reduceIte, reduceCtorEq, Nat.reduceAdd, Nat.reduceMul, Nat.reduceLeDiff, Nat.reduceLT, Nat.reduceSub, Int.reduceNe, Int.reduceEq, Int.reduceLE, Int.reduceLT, Int.reduceToNat, W5.bx.ld])))
  refine AW.joinF [4, 47, 48, 49, 50, 51, 52] (fun g M' => RSt M (.box [.int .i64 a.origin, p, .int .u32 a.hop, .int .u32 a.med, .int .u32 a.pref, .bool a.hasMed, .bool a.hasPref, c]) (g 4) (out4 ++ (if a.hasPref = true then oneP 64 5 (foursL [a.pref]) else [])) M') ?_ ?_
  · cases hm : a.hasPref with
    | false =>
      rw [hm] at W5
      (repeat (first | refine st ?_ | refine ADL.hd rfl ?_ | (refine And.intro (by omega) ?_) | (refine AW.condT rfl rfl (by first | rfl | assumption) ?_) | (refine AW.condF rfl rfl (by first | rfl | assumption) ?_) | refine AW.dr (id := 6) (by rfl) [0, 1, 2, 3, 4, 5, 6, 7, 8, 9] (by kernel_rfl) (by kernel_rfl) ?_ | ((first | refine AL.ld rfl ?_ | refine AL.bx rfl ?_ | refine AL.lt rfl ?_ | refine AL.ap rfl rfl ?_ | refine AL.ca rfl ?_ | refine AL.pu rfl ?_ | refine AH.ld rfl ?_ | refine AH.bx rfl ?_ | refine AH.lt rfl ?_ | refine AH.apN rfl rfl (by kernel_rfl) ?_ | refine AH.ca (dst := some 25) rfl ?_ | refine AH.pu rfl rfl ?_); simp (disch := omega) only [push_cast, ↓reduceIte, reduceCtorEq, Nat.reduceAdd, Nat.reduceMul, Nat.reduceLeDiff, Nat.reduceLT, Nat.reduceSub, Int.reduceNe, Int.reduceEq, Int.reduceLE, Int.reduceLT, Int.reduceToNat])))
      exact ⟨(over_self _ _).symm, by simpa using W5⟩
    | true =>
      rw [hm] at W5
      (repeat (first | refine st ?_ | refine ADL.hd rfl ?_ | (refine And.intro (by omega) ?_) | (refine AW.condT rfl rfl (by first | rfl | assumption) ?_) | (refine AW.condF rfl rfl (by first | rfl | assumption) ?_) | refine AW.dr (id := 6) (by rfl) [0, 1, 2, 3, 4, 5, 6, 7, 8, 9] (by kernel_rfl) (by kernel_rfl) ?_ | ((first | refine AL.ld rfl ?_ | refine AL.bx rfl ?_ | refine AL.lt rfl ?_ | refine AL.ap rfl rfl ?_ | refine AL.ca rfl ?_ | refine AL.pu rfl ?_ | refine AH.ld rfl ?_ | refine AH.bx rfl ?_ | refine AH.lt rfl ?_ | refine AH.apN rfl rfl (by kernel_rfl) ?_ | refine AH.ca (dst := some 25) rfl ?_ | refine AH.pu rfl rfl ?_); simp (disch := omega) only [push_cast, ↓reduceIte, reduceCtorEq, Nat.reduceAdd, Nat.reduceMul, Nat.reduceLeDiff, Nat.reduceLT, Nat.reduceSub, Int.reduceNe, Int.reduceEq, Int.reduceLE, Int.reduceLT, Int.reduceToNat, W5.bx.ld])))
      refine fourK g4 ?_
      intro r M6 hN6 hF6
      (repeat (first | refine st ?_ | refine ADL.hd rfl ?_ | (refine And.intro (by omega) ?_) | (refine AW.condT rfl rfl (by first | rfl | assumption) ?_) | (refine AW.condF rfl rfl (by first | rfl | assumption) ?_) | refine AW.dr (id := 6) (by rfl) [0, 1, 2, 3, 4, 5, 6, 7, 8, 9] (by kernel_rfl) (by kernel_rfl) ?_ | ((first | refine AL.ld rfl ?_ | refine AL.bx rfl ?_ | refine AL.lt rfl ?_ | refine AL.ap rfl rfl ?_ | refine AL.ca rfl ?_ | refine AL.pu rfl ?_ | refine AH.ld rfl ?_ | refine AH.bx rfl ?_ | refine AH.lt rfl ?_ | refine AH.apN rfl rfl (by kernel_rfl) ?_ | refine AH.ca (dst := some 25) rfl ?_ | refine AH.pu rfl rfl ?_); simp (disch := omega) only [push_cast, ↓reduceIte, reduceCtorEq, Nat.reduceAdd, Nat.reduceMul, Nat.reduceLeDiff, Nat.reduceLT, Nat.reduceSub, Int.reduceNe, Int.reduceEq, Int.reduceLE, Int.reduceLT, Int.reduceToNat])))
      refine roneK hN6.sl (by rw [foursL_length]; simp) (by omega) ?_
      intro w4 M7 hN7 hF7
      (repeat (first | refine st ?_ | refine ADL.hd rfl ?_ | (refine And.intro (by omega) ?_) | (refine AW.condT rfl rfl (by first | rfl | assumption) ?_) | (refine AW.condF rfl rfl (by first | rfl | assumption) ?_) | refine AW.dr (id := 6) (by rfl) [0, 1, 2, 3, 4, 5, 6, 7, 8, 9] (by kernel_rfl) (by kernel_rfl) ?_ | ((first | refine AL.ld rfl ?_ | refine AL.bx rfl ?_ | refine AL.lt rfl ?_ | refine AL.ap rfl rfl ?_ | refine AL.ca rfl ?_ | refine AL.pu rfl ?_ | refine AH.ld rfl ?_ | refine AH.bx rfl ?_ | refine AH.lt rfl ?_ | refine AH.apN rfl rfl (by kernel_rfl) ?_ | refine AH.ca (dst := some 25) rfl ?_ | refine AH.pu rfl rfl ?_); simp (disch := omega) only [push_cast, ↓reduceIte, reduceCtorEq, Nat.reduceAdd, Nat.reduceMul, Nat.reduceLeDiff, Nat.reduceLT, Nat.reduceSub, Int.reduceNe, Int.reduceEq, Int.reduceLE, Int.reduceLT, Int.reduceToNat])))
      refine more (W5.keep hF6) hN7 hF7 (by omega) (by omega) ?_
      intro w5 M8 W6
      (repeat (first | refine st ?_ | refine ADL.hd rfl ?_ | (refine And.intro (by omega) ?_) | (refine AW.condT rfl rfl (by first | rfl | assumption) ?_) | (refine AW.condF rfl rfl (by first | rfl | assumption) ?_) | refine AW.dr (id := 6) (by rfl) [0, 1, 2, 3, 4, 5, 6, 7, 8, 9] (by kernel_rfl) (by kernel_rfl) ?_ | ((first | refine AL.ld rfl ?_ | refine AL.bx rfl ?_ | refine AL.lt rfl ?_ | refine AL.ap rfl rfl ?_ | refine AL.ca rfl ?_ | refine AL.pu rfl ?_ | refine AH.ld rfl ?_ | refine AH.bx rfl ?_ | refine AH.lt rfl ?_ | refine AH.apN rfl rfl (by kernel_rfl) ?_ | refine AH.ca (dst := some 25) rfl ?_ | refine AH.pu rfl rfl ?_); simp (disch := omega) only [push_cast, ↓reduceIte, reduceCtorEq, Nat.reduceAdd, Nat.reduceMul, Nat.reduceLeDiff, Nat.reduceLT, Nat.reduceSub, Int.reduceNe, Int.reduceEq, Int.reduceLE, Int.reduceLT, Int.reduceToNat])))
      exact ⟨rfl, by simpa using W6⟩
  rintro g3 M10 W6
  have n5' : (if a.hasPref = true then oneP 64 5 (foursL [a.pref]) else []).length ≤ 8 := by split; omega; simp
  have hsc := hc.isSl
  have hnc := hc.lnI
  (repeat (first | refine st ?_ | refine ADL.hd rfl ?_ | (refine And.intro (by omega) ?_) | (refine AW.condT rfl rfl (by first | rfl | assumption) ?_) | (refine AW.condF rfl rfl (by first | rfl | assumption) ?_) | refine AW.dr (id := 6) (by rfl) [0, 1, 2, 3, 4, 5, 6, 7, 8, 9] (by kernel_rfl) (by kernel_rfl) ?_ | ((first | refine AL.ld rfl ?_ | refine AL.bx rfl ?_ | refine AL.lt rfl ?_ | refine AL.ap rfl rfl ?_ | refine AL.ca rfl ?_ | refine AL.pu rfl ?_ | refine AH.ld rfl ?_ | refine AH.bx rfl ?_ | refine AH.lt rfl ?_ | refine AH.apN rfl rfl (by kernel_rfl) ?_ | refine AH.ca (dst := some 25) rfl ?_ | refine AH.pu rfl rfl ?_); simp (disch := omega) only [push_cast, ↓reduceIte, reduceCtorEq, Nat.reduceAdd, Nat.reduceMul, Nat.reduceLeDiff, Nat.reduceLT, Nat.reduceSub, Int.reduceNe, Int.reduceEq, Int.reduceLE, Int.reduceLT, Int.reduceToNat, W6.bx.ld, hsc, hnc])))
  refine AW.joinF [4, 57, 58, 59, 60, 61, 62] (fun g M' => RSt M (.box [.int .i64 a.origin, p, .int .u32 a.hop, .int .u32 a.med, .int .u32 a.pref, .bool a.hasMed, .bool a.hasPref, c]) (g 4) (putP a) M') ?_ ?_
  · by_cases cc : a.comms = []
    · have d : decide ((a.comms.length : Int) > 0) = false := by rw [cc]; rfl
      (repeat (first | refine st ?_ | refine ADL.hd rfl ?_ | (refine And.intro (by omega) ?_) | (refine AW.condT rfl rfl (by first | rfl | assumption) ?_) | (refine AW.condF rfl rfl (by first | rfl | assumption) ?_) | refine AW.dr (id := 6) (by rfl) [0, 1, 2, 3, 4, 5, 6, 7, 8, 9] (by kernel_rfl) (by kernel_rfl) ?_ | ((first | refine AL.ld rfl ?_ | refine AL.bx rfl ?_ | refine AL.lt rfl ?_ | refine AL.ap rfl rfl ?_ | refine AL.ca rfl ?_ | refine AL.pu rfl ?_ | refine AH.ld rfl ?_ | refine AH.bx rfl ?_ | refine AH.lt rfl ?_ | refine AH.apN rfl rfl (by kernel_rfl) ?_ | refine AH.ca (dst := some 25) rfl ?_ | refine AH.pu rfl rfl ?_); simp (disch := omega) only [push_cast, ↓reduceIte, reduceCtorEq, Nat.reduceAdd, Nat.reduceMul, Nat.reduceLeDiff, Nat.reduceLT, Nat.reduceSub, Int.reduceNe, Int.reduceEq, Int.reduceLE, Int.reduceLT, Int.reduceToNat, d])))
      have e : putP a = out4 ++ (if a.hasPref = true then oneP 64 5 (foursL [a.pref]) else []) := by unfold putP; rw [hout, cc]; simp
      rw [e]
      exact ⟨(over_self _ _).symm, W6⟩
    · have d : decide ((a.comms.length : Int) > 0) = true := decide_eq_true (by have := List.length_pos_iff.2 cc; omega)
      (repeat (first | refine st ?_ | refine ADL.hd rfl ?_ | (refine And.intro (by omega) ?_) | (refine AW.condT rfl rfl (by first | rfl | assumption) ?_) | (refine AW.condF rfl rfl (by first | rfl | assumption) ?_) | refine AW.dr (id := 6) (by rfl) [0, 1, 2, 3, 4, 5, 6, 7, 8, 9] (by kernel_rfl) (by kernel_rfl) ?_ | ((first | refine AL.ld rfl ?_ | refine AL.bx rfl ?_ | refine AL.lt rfl ?_ | refine AL.ap rfl rfl ?_ | refine AL.ca rfl ?_ | refine AL.pu rfl ?_ | refine AH.ld rfl ?_ | refine AH.bx rfl ?_ | refine AH.lt rfl ?_ | refine AH.apN rfl rfl (by kernel_rfl) ?_ | refine AH.ca (dst := some 25) rfl ?_ | refine AH.pu rfl rfl ?_); simp (disch := omega) only [push_cast, ↓reduceIte, reduceCtorEq, Nat.reduceAdd, Nat.reduceMul, Nat.reduceLeDiff, Nat.reduceLT, Nat.reduceSub, Int.reduceNe, Int.reduceEq, Int.reduceLE, Int.reduceLT, Int.reduceToNat, d, W6.bx.ld])))
      refine (fours_spec c a.comms _ (hc.keep W6.fr (by simp)) g5 h2).mono ?_
      rintro r M11 ⟨hN6, hF6⟩
      (repeat (first | refine st ?_ | refine ADL.hd rfl ?_ | (refine And.intro (by omega) ?_) | (refine AW.condT rfl rfl (by first | rfl | assumption) ?_) | (refine AW.condF rfl rfl (by first | rfl | assumption) ?_) | refine AW.dr (id := 6) (by rfl) [0, 1, 2, 3, 4, 5, 6, 7, 8, 9] (by kernel_rfl) (by kernel_rfl) ?_ | ((first | refine AL.ld rfl ?_ | refine AL.bx rfl ?_ | refine AL.lt rfl ?_ | refine AL.ap rfl rfl ?_ | refine AL.ca rfl ?_ | refine AL.pu rfl ?_ | refine AH.ld rfl ?_ | refine AH.bx rfl ?_ | refine AH.lt rfl ?_ | refine AH.apN rfl rfl (by kernel_rfl) ?_ | refine AH.ca (dst := some 25) rfl ?_ | refine AH.pu rfl rfl ?_); simp (disch := omega) only [push_cast, ↓reduceIte, reduceCtorEq, Nat.reduceAdd, Nat.reduceMul, Nat.reduceLeDiff, Nat.reduceLT, Nat.reduceSub, Int.reduceNe, Int.reduceEq, Int.reduceLE, Int.reduceLT, Int.reduceToNat])))
      refine roneK hN6.sl (by rw [foursL_length]; omega) (by omega) ?_
      intro w4 M7 hN7 hF7
      (repeat (first | refine st ?_ | refine ADL.hd rfl ?_ | (refine And.intro (by omega) ?_) | (refine AW.condT rfl rfl (by first | rfl | assumption) ?_) | (refine AW.condF rfl rfl (by first | rfl | assumption) ?_) | refine AW.dr (id := 6) (by rfl) [0, 1, 2, 3, 4, 5, 6, 7, 8, 9] (by kernel_rfl) (by kernel_rfl) ?_ | ((first | refine AL.ld rfl ?_ | refine AL.bx rfl ?_ | refine AL.lt rfl ?_ | refine AL.ap rfl rfl ?_ | refine AL.ca rfl ?_ | refine AL.pu rfl ?_ | refine AH.ld rfl ?_ | refine AH.bx rfl ?_ | refine AH.lt rfl ?_ | refine AH.apN rfl rfl (by kernel_rfl) ?_ | refine AH.ca (dst := some 25) rfl ?_ | refine AH.pu rfl rfl ?_); simp (disch := omega) only [push_cast, ↓reduceIte, reduceCtorEq, Nat.reduceAdd, Nat.reduceMul, Nat.reduceLeDiff, Nat.reduceLT, Nat.reduceSub, Int.reduceNe, Int.reduceEq, Int.reduceLE, Int.reduceLT, Int.reduceToNat])))
      refine more (W6.keep hF6) hN7 hF7 (by rw [List.length_append]; omega) (by omega) ?_
      intro w5 M8 W7
      (repeat (first | refine st ?_ | refine ADL.hd rfl ?_ | (refine And.intro (by omega) ?_) | (refine AW.condT rfl rfl (by first | rfl | assumption) ?_) | (refine AW.condF rfl rfl (by first | rfl | assumption) ?_) | refine AW.dr (id := 6) (by rfl) [0, 1, 2, 3, 4, 5, 6, 7, 8, 9] (by kernel_rfl) (by kernel_rfl) ?_ | ((first | refine AL.ld rfl ?_ | refine AL.bx rfl ?_ | refine AL.lt rfl ?_ | refine AL.ap rfl rfl ?_ | refine AL.ca rfl ?_ | refine AL.pu rfl ?_ | refine AH.ld rfl ?_ | refine AH.bx rfl ?_ | refine AH.lt rfl ?_ | refine AH.apN rfl rfl (by kernel_rfl) ?_ | refine AH.ca (dst := some 25) rfl ?_ | refine AH.pu rfl rfl ?_); simp (disch := omega) only [push_cast, ↓reduceIte, reduceCtorEq, Nat.reduceAdd, Nat.reduceMul, Nat.reduceLeDiff, Nat.reduceLT, Nat.reduceSub, Int.reduceNe, Int.reduceEq, Int.reduceLE, Int.reduceLT, Int.reduceToNat])))
      have e : putP a = out4 ++ (if a.hasPref = true then oneP 64 5 (foursL [a.pref]) else []) ++ oneP 192 8 (foursL a.comms) := by unfold putP; rw [hout, if_neg cc]
      rw [e]
      exact ⟨rfl, W7⟩
  rintro g4 M12 W8
  (repeat (first | refine st ?_ | refine ADL.hd rfl ?_ | (refine And.intro (by omega) ?_) | (refine AW.condT rfl rfl (by first | rfl | assumption) ?_) | (refine AW.condF rfl rfl (by first | rfl | assumption) ?_) | refine AW.dr (id := 6) (by rfl) [0, 1, 2, 3, 4, 5, 6, 7, 8, 9] (by kernel_rfl) (by kernel_rfl) ?_ | ((first | refine AL.ld rfl ?_ | refine AL.bx rfl ?_ | refine AL.lt rfl ?_ | refine AL.ap rfl rfl ?_ | refine AL.ca rfl ?_ | refine AL.pu rfl ?_ | refine AH.ld rfl ?_ | refine AH.bx rfl ?_ | refine AH.lt rfl ?_ | refine AH.apN rfl rfl (by kernel_rfl) ?_ | refine AH.ca (dst := some 25) rfl ?_ | refine AH.pu rfl rfl ?_); simp (disch := omega) only [push_cast, ↓reduceIte, reduceCtorEq, Nat.reduceAdd, Nat.reduceMul, Nat.reduceLeDiff, Nat.reduceLT, Nat.reduceSub, Int.reduceNe, Int.reduceEq, Int.reduceLE, Int.reduceLT, Int.reduceToNat])))
  ((first | refine retA.ret (by rfl) ?_ | refine retA.normal (by rfl) ?_); simp (disch := omega) only [push_cast, ↓reduceIte, reduceCtorEq, Nat.reduceAdd, Nat.reduceMul, Nat.reduceLeDiff, Nat.reduceLT, Nat.reduceSub, Int.reduceNe, Int.reduceEq, Int.reduceLE, Int.reduceLT, Int.reduceToNat])
  exact ⟨W8.fr, .inl ⟨hr, g4 4, rfl, W8.own⟩⟩

end Go.Proofs.Ytbjipdmbdabniaa.Ax
