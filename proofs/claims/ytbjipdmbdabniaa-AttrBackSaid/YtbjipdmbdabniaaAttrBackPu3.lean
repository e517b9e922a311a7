/- Contracts of functions over the abstract machine. No conditions: lemmas alone. -/
import Derived.Test.YtbjipdmbdabniaaAttrBackLibD
import Derived.Test.YtbjipdmbdabniaaAttrBackPu2
namespace Go.Proofs.Ytbjipdmbdabniaa.Ax
open Go Go.RowKit
set_option linter.unusedVariables false
set_option linter.unusedSimpArgs false
set_option maxRecDepth 100000
set_option maxHeartbeats 20000000
attribute [local irreducible] thenA blockA scopeA retA AL AW AD ADL AH clrK CallA apure aload bload appK ptrK fnK ares szOk planOk okOps
/-- The writer at s, and what it has written; the attributes lie at M's end. -/
structure WSt (M : Mem) (s : Nat) (B : Blk) (w : Value) (out : List Int) (M' : Mem) : Prop where
  lt : M.length < s
  fr : Fr M M' []
  bx : At M' M.length B
  wr : At M' s (.box [w])
  own : Own M' w 1 (ints .u8 out)
  blk : ∀ b ∈ blkOf w, s < b
theorem WSt.keep {M M' M2 : Mem} {s : Nat} {B : Blk} {w : Value} {out : List Int} (h : WSt M s B w out M') (f : Fr M' M2 []) : WSt M s B w out M2 :=
  ⟨h.lt, h.fr.tr f, h.bx.keep f (by simp), h.wr.keep f (by simp), h.own.keep f (by simp), h.blk⟩
/-- What is newer than a writer's memory is not the writer's. -/
theorem WSt.sep {M M' : Mem} {s : Nat} {B : Blk} {w v : Value} {out : List Int} (h : WSt M s B w out M') (hv : ∀ b ∈ blkOf v, M'.length ≤ b) : ∀ b ∈ blkOf v, b ≠ s ∧ b ∉ blkOf w := fun b hb => by
  have h1 := hv b hb
  have h2 := h.wr.lt
  refine ⟨by omega, fun h3 => ?_⟩
  have := h.own.sl.blks b h3
  omega
theorem wputK {M M' : Mem} {s : Nat} {B : Blk} {w v : Value} {out ys : List Int} {k fl : Int} {K : Value → Mem → Prop} (h : WSt M s B w out M') (hv : Sl M' v 1 (ints .u8 ys)) (hsv : ∀ b ∈ blkOf v, b ≠ s ∧ b ∉ blkOf w) (hl : ys.length ≤ 65535) (ho : out.length ≤ 1000000) (hf : flagsP k = fl) (hk : fl = 64 ∨ fl = 128 ∨ fl = 192)
    (hK : ∀ r w' M3, WSt M s B w' (out ++ oneP fl k ys) M3 → K r M3) : CallA Try.prog 25 [.pointer (some ⟨s, 0, none⟩), .int .u8 k, v] M' K := by
  have hlt := h.lt
  refine (wput_spec s M.length w out k v ys M' h.wr h.own (fun e => by have := h.blk s e; omega) ⟨by omega, fun b hb => by have := h.blk b hb; omega⟩ h.fr.1 hv hsv hl ho (by rw [hf]; exact hk)).mono ?_
  rintro r M3 ⟨w', h1, h2, h3, h4⟩
  rw [hf] at h2
  have hM := h.fr.1
  have h5 : Fr M M3 [] := (h.fr.trans h4).cut (by
    intro x hx hlt
    rcases List.mem_append.1 hx with hx | hx
    · cases hx
    · rcases List.mem_cons.1 hx with rfl | hx
      · omega
      · have := h.blk x hx; omega)
  have hsl := h.wr.lt
  exact hK r w' M3 ⟨h.lt, h5, h.bx.keep h4 (by
    intro hx
    rcases List.mem_cons.1 hx with e | hx
    · omega
    · have := h.blk _ hx; omega), h1, h2, fun b hb => by have := h3 b hb; omega⟩
theorem nums1K {M : Mem} {x : Int} {K : Value → Mem → Prop} (hx : u32 x) (h : ∀ r M', New M M' r 1 (ints .u8 (foursL [x])) → Fr M M' [] → K r M') : CallA Try.prog 26 [.slice (some ⟨M.length, 0, none⟩) 1 1] (M ++ [.row true 1 [.int .u32 x]]) K := by
  have hrow := New.row M (s := 1) (n := 1) (cs := ints .u32 [x]) (by omega) rfl rfl (by decide)
  refine (anums_spec _ [x] _ hrow.sl (fun y hy => by rcases List.mem_singleton.1 hy with rfl; exact hx) (by simp)).mono ?_
  rintro r M' ⟨hN, hF⟩
  exact h r M' (hN.after (Fr.push M _)) ((Fr.push M _).tr hF)
theorem oneP_len (fl k : Int) (v : List Int) : (oneP fl k v).length ≤ 4 + v.length := by unfold oneP; split <;> simp <;> omega
theorem put_spec (a : AV) (p c : Value) (M : Mem) (hp : Sl M p 1 (ints .u32 a.path)) (hc : Sl M c 1 (ints .u32 a.comms)) (hg : goodAV a) (h1 : a.path.length ≤ 1000000) (h2 : a.comms.length ≤ 1000000) : CallA Try.prog 15 [.agg ⟨avL a p c⟩] M fun r M' => Fr M M' [] ∧
    ((rightP a ∧ ∃ w, r = .tuple ⟨[w, .int .i64 0]⟩ ∧ New M M' w 1 (ints .u8 (putP a))) ∨ (¬ rightP a ∧ r = .tuple ⟨[.slice none 0 0, .int .i64 4]⟩)) := by
  obtain ⟨g1, g2, g3, g4, g5⟩ := hg
  have fb := Fr.push M (.box (avL a p c))
  have bx := At.push M (.box (avL a p c))
  have op := isSl_one hp.isSl
  have oc := isSl_one hc.isSl
  simp only [Value.oneCell'] at op oc
  unfold avL at *
  (refine CallA.of_body Try.func15 rfl (by rfl) ?_; simp only [Try.ntmps15, List.length_cons, List.length_nil, List.replicate, List.cons_append, List.nil_append, Nat.reduceSub, Nat.reduceAdd])
  (repeat (first | refine st ?_ | (refine And.intro (by omega) ?_) | (refine AW.condT rfl rfl (by first | rfl | assumption) ?_) | (refine AW.condF rfl rfl (by first | rfl | assumption) ?_) | ((first | refine AL.ld rfl ?_ | refine AL.bx rfl ?_ | refine AL.lt rfl ?_ | refine AL.ap rfl rfl ?_ | refine AL.ca rfl ?_ | refine AL.pu rfl ?_); simp (disch := omega) only [push_cast, ↓reduceIte, reduceCtorEq, Nat.reduceAdd, Nat.reduceMul, Nat.reduceLeDiff, Nat.reduceLT, Nat.reduceSub, Int.reduceNe, Int.reduceEq, Int.reduceLE, Int.reduceLT, Int.reduceToNat, buildE, memE, boxE])))
  refine (right_spec a p c _ (hp.keep fb (by simp)) (hc.keep fb (by simp)) (by omega) (by omega)).mono ?_
  rintro r M1 ⟨hF1, rfl⟩
  have hF := fb.tr hF1
  have bx1 := bx.keep hF1 (by simp)
  by_cases hr : rightP a
  rotate_left
  · have d : decide (rightP a) = false := decide_eq_false hr
    rw [d]
    (repeat (first | refine st ?_ | (refine And.intro (by omega) ?_) | (refine AW.condT rfl rfl (by first | rfl | assumption) ?_) | (refine AW.condF rfl rfl (by first | rfl | assumption) ?_) | ((first | refine AL.ld rfl ?_ | refine AL.bx rfl ?_ | refine AL.lt rfl ?_ | refine AL.ap rfl rfl ?_ | refine AL.ca rfl ?_ | refine AL.pu rfl ?_); simp (disch := omega) only [push_cast, ↓reduceIte, reduceCtorEq, Nat.reduceAdd, Nat.reduceMul, Nat.reduceLeDiff, Nat.reduceLT, Nat.reduceSub, Int.reduceNe, Int.reduceEq, Int.reduceLE, Int.reduceLT, Int.reduceToNat, Bool.not_false])))
    ((first | refine retA.ret (by rfl) ?_ | refine retA.normal (by rfl) ?_); simp (disch := omega) only [push_cast, ↓reduceIte, reduceCtorEq, Nat.reduceAdd, Nat.reduceMul, Nat.reduceLeDiff, Nat.reduceLT, Nat.reduceSub, Int.reduceNe, Int.reduceEq, Int.reduceLE, Int.reduceLT, Int.reduceToNat])
    exact ⟨hF, .inr hr⟩
  have d : decide (rightP a) = true := decide_eq_true hr
  rw [d]
  have r5 := hr.2.2.2.2.1
  have r6 := hr.2.2.2.2.2.1
  have wu : IntKind.u8.wrap a.origin = a.origin := w_u8 (by omega) (by omega)
  have hM1 : M.length < M1.length := bx1.lt
  have W0 : WSt M M1.length (.box [.int .i64 a.origin, p, .int .u32 a.hop, .int .u32 a.med, .int .u32 a.pref, .bool a.hasMed, .bool a.hasPref, c]) (.slice none 0 0) [] (M1 ++ [.box [.slice none 0 0]]) :=
    ⟨hM1, hF.tr (Fr.push M1 _), bx1.keep (Fr.push M1 _) (by simp), At.push M1 _, Own.nil _ (by omega), fun b hb => by cases hb⟩
  have hpl := hr.2.1
  have hcl := hr.2.2.1
  have n1 := oneP_len 64 1 [a.origin]
  have n2 := oneP_len 64 2 (pathB a.path)
  have n2b := pathB_length a.path
  have n3 := oneP_len 64 3 (foursL [a.hop])
  have n4 := oneP_len 128 4 (foursL [a.med])
  have n5 := oneP_len 64 5 (foursL [a.pref])
  have n8 := oneP_len 192 8 (foursL a.comms)
  rw [foursL_length] at n3 n4 n5 n8
  simp only [List.length_cons, List.length_nil] at n1 n3 n4 n5
  (repeat (first | refine st ?_ | (refine And.intro (by omega) ?_) | (refine AW.condT rfl rfl (by first | rfl | assumption) ?_) | (refine AW.condF rfl rfl (by first | rfl | assumption) ?_) | ((first | refine AL.ld rfl ?_ | refine AL.bx rfl ?_ | refine AL.lt rfl ?_ | refine AL.ap rfl rfl ?_ | refine AL.ca rfl ?_ | refine AL.pu rfl ?_); simp (disch := omega) only [push_cast, ↓reduceIte, reduceCtorEq, Nat.reduceAdd, Nat.reduceMul, Nat.reduceLeDiff, Nat.reduceLT, Nat.reduceSub, Int.reduceNe, Int.reduceEq, Int.reduceLE, Int.reduceLT, Int.reduceToNat, W0.bx.ld, wu, Bool.not_true])))
  refine wputK (W0.keep (Fr.push _ _)) (New.lit _ 1 [a.origin] rfl (by decide)).sl (W0.sep (New.lit _ 1 [a.origin] rfl (by decide)).blk) (by simp) (by simp) (fl := 64) rfl (.inl rfl) ?_
  intro r w1 M3 W1
  rw [List.nil_append] at W1
  have hp3 := hp.keep W1.fr (by simp)
  have hsp := hp.isSl
  have hnp := hp.lnI
  (repeat (first | refine st ?_ | (refine And.intro (by omega) ?_) | (refine AW.condT rfl rfl (by first | rfl | assumption) ?_) | (refine AW.condF rfl rfl (by first | rfl | assumption) ?_) | ((first | refine AL.ld rfl ?_ | refine AL.bx rfl ?_ | refine AL.lt rfl ?_ | refine AL.ap rfl rfl ?_ | refine AL.ca rfl ?_ | refine AL.pu rfl ?_); simp (disch := omega) only [push_cast, ↓reduceIte, reduceCtorEq, Nat.reduceAdd, Nat.reduceMul, Nat.reduceLeDiff, Nat.reduceLT, Nat.reduceSub, Int.reduceNe, Int.reduceEq, Int.reduceLE, Int.reduceLT, Int.reduceToNat, W1.bx.ld, hsp, hnp])))
  clear W0 bx1 bx hF1 hF fb
  refine AW.joinF [5, 23, 24, 25, 26, 27, 28, 29] (fun g M' => WSt M M1.length (.box [.int .i64 a.origin, p, .int .u32 a.hop, .int .u32 a.med, .int .u32 a.pref, .bool a.hasMed, .bool a.hasPref, c]) w1 (oneP 64 1 [a.origin]) M' ∧ Sl M' (g 5) 1 (ints .u8 (pathB a.path)) ∧ ∀ b ∈ blkOf (g 5), b ≠ M1.length ∧ b ∉ blkOf w1) ?_ ?_
  · by_cases cp : a.path = []
    · have d : decide ((a.path.length : Int) > 0) = false := by rw [cp]; rfl
      (repeat (first | refine st ?_ | (refine And.intro (by omega) ?_) | (refine AW.condT rfl rfl (by first | rfl | assumption) ?_) | (refine AW.condF rfl rfl (by first | rfl | assumption) ?_) | ((first | refine AL.ld rfl ?_ | refine AL.bx rfl ?_ | refine AL.lt rfl ?_ | refine AL.ap rfl rfl ?_ | refine AL.ca rfl ?_ | refine AL.pu rfl ?_); simp (disch := omega) only [push_cast, ↓reduceIte, reduceCtorEq, Nat.reduceAdd, Nat.reduceMul, Nat.reduceLeDiff, Nat.reduceLT, Nat.reduceSub, Int.reduceNe, Int.reduceEq, Int.reduceLE, Int.reduceLT, Int.reduceToNat, d])))
      refine ⟨rfl, W1, ?_, fun b hb => by cases hb⟩
      rw [cp]
      exact Sl.nil _ (by omega)
    · have d : decide ((a.path.length : Int) > 0) = true := decide_eq_true (by have := List.length_pos_iff.2 cp; omega)
      have wn : IntKind.u8.wrap (a.path.length : Int) = a.path.length := w_u8 (by omega) (by omega)
      have W2 := W1.keep (Fr.push M3 (.row true 1 [.int .u8 2, .int .u8 (a.path.length : Int)]))
      (repeat (first | refine st ?_ | (refine And.intro (by omega) ?_) | (refine AW.condT rfl rfl (by first | rfl | assumption) ?_) | (refine AW.condF rfl rfl (by first | rfl | assumption) ?_) | ((first | refine AL.ld rfl ?_ | refine AL.bx rfl ?_ | refine AL.lt rfl ?_ | refine AL.ap rfl rfl ?_ | refine AL.ca rfl ?_ | refine AL.pu rfl ?_); simp (disch := omega) only [push_cast, ↓reduceIte, reduceCtorEq, Nat.reduceAdd, Nat.reduceMul, Nat.reduceLeDiff, Nat.reduceLT, Nat.reduceSub, Int.reduceNe, Int.reduceEq, Int.reduceLE, Int.reduceLT, Int.reduceToNat, d, wn, W2.bx.ld])))
      have r0 := New.lit M3 2 [2, (a.path.length : Int)] rfl (by decide)
      refine (anums_spec p a.path _ (hp3.keep (Fr.push M3 (.row true 1 (ints .u8 [2, (a.path.length : Int)]))) (by simp)) g1 h1).mono ?_
      rintro r M4 ⟨hN4, hF4⟩
      (repeat (first | refine st ?_ | (refine And.intro (by omega) ?_) | (refine AW.condT rfl rfl (by first | rfl | assumption) ?_) | (refine AW.condF rfl rfl (by first | rfl | assumption) ?_) | ((first | refine AL.ld rfl ?_ | refine AL.bx rfl ?_ | refine AL.lt rfl ?_ | refine AL.ap rfl rfl ?_ | refine AL.ca rfl ?_ | refine AL.pu rfl ?_); simp (disch := omega) only [push_cast, ↓reduceIte, reduceCtorEq, Nat.reduceAdd, Nat.reduceMul, Nat.reduceLeDiff, Nat.reduceLT, Nat.reduceSub, Int.reduceNe, Int.reduceEq, Int.reduceLE, Int.reduceLT, Int.reduceToNat])))
      have fl4 := foursL_length a.path
      refine appK.ints (P := Try.prog) (e := 5) (bt := 1) (z := .int .u8 0) (by kernel_rfl) (by kernel_rfl) (by kernel_rfl) (by kernel_rfl) (by decide) (r0.1.keep hF4 (by simp)) hN4.sl (by simp; omega) ?_
      intro v5 M5 hN5 hF5
      (repeat (first | refine st ?_ | (refine And.intro (by omega) ?_) | (refine AW.condT rfl rfl (by first | rfl | assumption) ?_) | (refine AW.condF rfl rfl (by first | rfl | assumption) ?_) | ((first | refine AL.ld rfl ?_ | refine AL.bx rfl ?_ | refine AL.lt rfl ?_ | refine AL.ap rfl rfl ?_ | refine AL.ca rfl ?_ | refine AL.pu rfl ?_); simp (disch := omega) only [push_cast, ↓reduceIte, reduceCtorEq, Nat.reduceAdd, Nat.reduceMul, Nat.reduceLeDiff, Nat.reduceLT, Nat.reduceSub, Int.reduceNe, Int.reduceEq, Int.reduceLE, Int.reduceLT, Int.reduceToNat])))
      have F35 : Fr M3 M5 [] := ((Fr.push M3 _).tr hF4).new (r0.keep hF4 (by simp)) hF5
      have N5 : New M3 M5 v5 1 (ints .u8 ([2, (a.path.length : Int)] ++ foursL a.path)) := hN5.after ((Fr.push M3 _).tr hF4)
      have e : pathB a.path = [2, (a.path.length : Int)] ++ foursL a.path := by unfold pathB; rw [if_neg cp]; rfl
      rw [e]
      exact ⟨rfl, W1.keep F35, N5.sl, W1.sep N5.blk⟩
  rintro g M4 ⟨W2, hseg, hsep⟩
  (repeat (first | refine st ?_ | (refine And.intro (by omega) ?_) | (refine AW.condT rfl rfl (by first | rfl | assumption) ?_) | (refine AW.condF rfl rfl (by first | rfl | assumption) ?_) | ((first | refine AL.ld rfl ?_ | refine AL.bx rfl ?_ | refine AL.lt rfl ?_ | refine AL.ap rfl rfl ?_ | refine AL.ca rfl ?_ | refine AL.pu rfl ?_); simp (disch := omega) only [push_cast, ↓reduceIte, reduceCtorEq, Nat.reduceAdd, Nat.reduceMul, Nat.reduceLeDiff, Nat.reduceLT, Nat.reduceSub, Int.reduceNe, Int.reduceEq, Int.reduceLE, Int.reduceLT, Int.reduceToNat])))
  refine wputK W2 hseg hsep (by omega) (by omega) (fl := 64) rfl (.inl rfl) ?_
  intro r w2 M5 W3
  (repeat (first | refine st ?_ | (refine And.intro (by omega) ?_) | (refine AW.condT rfl rfl (by first | rfl | assumption) ?_) | (refine AW.condF rfl rfl (by first | rfl | assumption) ?_) | ((first | refine AL.ld rfl ?_ | refine AL.bx rfl ?_ | refine AL.lt rfl ?_ | refine AL.ap rfl rfl ?_ | refine AL.ca rfl ?_ | refine AL.pu rfl ?_); simp (disch := omega) only [push_cast, ↓reduceIte, reduceCtorEq, Nat.reduceAdd, Nat.reduceMul, Nat.reduceLeDiff, Nat.reduceLT, Nat.reduceSub, Int.reduceNe, Int.reduceEq, Int.reduceLE, Int.reduceLT, Int.reduceToNat, W3.bx.ld])))
  refine nums1K g2 ?_
  intro r M6 hN6 hF6
  (repeat (first | refine st ?_ | (refine And.intro (by omega) ?_) | (refine AW.condT rfl rfl (by first | rfl | assumption) ?_) | (refine AW.condF rfl rfl (by first | rfl | assumption) ?_) | ((first | refine AL.ld rfl ?_ | refine AL.bx rfl ?_ | refine AL.lt rfl ?_ | refine AL.ap rfl rfl ?_ | refine AL.ca rfl ?_ | refine AL.pu rfl ?_); simp (disch := omega) only [push_cast, ↓reduceIte, reduceCtorEq, Nat.reduceAdd, Nat.reduceMul, Nat.reduceLeDiff, Nat.reduceLT, Nat.reduceSub, Int.reduceNe, Int.reduceEq, Int.reduceLE, Int.reduceLT, Int.reduceToNat])))
  refine wputK (W3.keep hF6) hN6.sl (W3.sep hN6.blk) (by rw [foursL_length]; simp) (by rw [List.length_append]; omega) (fl := 64) rfl (.inl rfl) ?_
  intro r w3 M7 W4
  (repeat (first | refine st ?_ | (refine And.intro (by omega) ?_) | (refine AW.condT rfl rfl (by first | rfl | assumption) ?_) | (refine AW.condF rfl rfl (by first | rfl | assumption) ?_) | ((first | refine AL.ld rfl ?_ | refine AL.bx rfl ?_ | refine AL.lt rfl ?_ | refine AL.ap rfl rfl ?_ | refine AL.ca rfl ?_ | refine AL.pu rfl ?_); simp (disch := omega) only [push_cast, ↓reduceIte, reduceCtorEq, Nat.reduceAdd, Nat.reduceMul, Nat.reduceLeDiff, Nat.reduceLT, Nat.reduceSub, Int.reduceNe, Int.reduceEq, Int.reduceLE, Int.reduceLT, Int.reduceToNat, W4.bx.ld])))
  refine AW.joinF [41, 42, 43, 44, 45, 46] (fun g M' => ∃ w', WSt M M1.length (.box [.int .i64 a.origin, p, .int .u32 a.hop, .int .u32 a.med, .int .u32 a.pref, .bool a.hasMed, .bool a.hasPref, c]) w' (oneP 64 1 [a.origin] ++ oneP 64 2 (pathB a.path) ++ oneP 64 3 (foursL [a.hop]) ++ (if a.hasMed = true then oneP 128 4 (foursL [a.med]) else [])) M') ?_ ?_
  · cases hm : a.hasMed with
    | false =>
      rw [hm] at W4
      (repeat (first | refine st ?_ | (refine And.intro (by omega) ?_) | (refine AW.condT rfl rfl (by first | rfl | assumption) ?_) | (refine AW.condF rfl rfl (by first | rfl | assumption) ?_) | ((first | refine AL.ld rfl ?_ | refine AL.bx rfl ?_ | refine AL.lt rfl ?_ | refine AL.ap rfl rfl ?_ | refine AL.ca rfl ?_ | refine AL.pu rfl ?_); simp (disch := omega) only [push_cast, ↓reduceIte, reduceCtorEq, Nat.reduceAdd, Nat.reduceMul, Nat.reduceLeDiff, Nat.reduceLT, Nat.reduceSub, Int.reduceNe, Int.reduceEq, Int.reduceLE, Int.reduceLT, Int.reduceToNat])))
      exact ⟨(over_self _ _).symm, w3, by simpa using W4⟩
    | true =>
      rw [hm] at W4
      (repeat (first | refine st ?_ | (refine And.intro (by omega) ?_) | (refine AW.condT rfl rfl (by first | rfl | assumption) ?_) | (refine AW.condF rfl rfl (by first | rfl | assumption) ?_) | ((first | refine AL.ld rfl ?_ | refine AL.bx rfl ?_ | refine AL.lt rfl ?_ | refine AL.ap rfl rfl ?_ | refine AL.ca rfl ?_ | refine AL.pu rfl ?_); simp (disch := omega) only [push_cast, ↓reduceIte, reduceCtorEq, Nat.reduceAdd, Nat.reduceMul, Nat.reduceLeDiff, Nat.reduceLT, Nat.reduceSub, Int.reduceNe, Int.reduceEq, Int.reduceLE, Int.reduceLT, Int.reduceToNat, W4.bx.ld])))
      refine nums1K g3 ?_
      intro r M6 hN6 hF6
      (repeat (first | refine st ?_ | (refine And.intro (by omega) ?_) | (refine AW.condT rfl rfl (by first | rfl | assumption) ?_) | (refine AW.condF rfl rfl (by first | rfl | assumption) ?_) | ((first | refine AL.ld rfl ?_ | refine AL.bx rfl ?_ | refine AL.lt rfl ?_ | refine AL.ap rfl rfl ?_ | refine AL.ca rfl ?_ | refine AL.pu rfl ?_); simp (disch := omega) only [push_cast, ↓reduceIte, reduceCtorEq, Nat.reduceAdd, Nat.reduceMul, Nat.reduceLeDiff, Nat.reduceLT, Nat.reduceSub, Int.reduceNe, Int.reduceEq, Int.reduceLE, Int.reduceLT, Int.reduceToNat])))
      refine wputK (W4.keep hF6) hN6.sl (W4.sep hN6.blk) (by rw [foursL_length]; simp) (by simp only [List.length_append]; omega) (fl := 128) rfl (.inr (.inl rfl)) ?_
      intro r w4 M7 W5
      (repeat (first | refine st ?_ | (refine And.intro (by omega) ?_) | (refine AW.condT rfl rfl (by first | rfl | assumption) ?_) | (refine AW.condF rfl rfl (by first | rfl | assumption) ?_) | ((first | refine AL.ld rfl ?_ | refine AL.bx rfl ?_ | refine AL.lt rfl ?_ | refine AL.ap rfl rfl ?_ | refine AL.ca rfl ?_ | refine AL.pu rfl ?_); simp (disch := omega) only [push_cast, ↓reduceIte, reduceCtorEq, Nat.reduceAdd, Nat.reduceMul, Nat.reduceLeDiff, Nat.reduceLT, Nat.reduceSub, Int.reduceNe, Int.reduceEq, Int.reduceLE, Int.reduceLT, Int.reduceToNat])))
      exact ⟨rfl, w4, by simpa using W5⟩
  rintro g2 M8 ⟨w4, W5⟩
  have n4' : (if a.hasMed = true then oneP 128 4 (foursL [a.med]) else []).length ≤ 8 := by split; omega; simp
  generalize hout : oneP 64 1 [a.origin] ++ oneP 64 2 (pathB a.path) ++ oneP 64 3 (foursL [a.hop]) ++ (if a.hasMed = true then oneP 128 4 (foursL [a.med]) else []) = out4 at *
  have nout : out4.length ≤ 2000 := by rw [← hout]; simp only [List.length_append]; omega
  (repeat (first | refine st ?_ | (refine And.intro (by omega) ?_) | (refine AW.condT rfl rfl (by first | rfl | assumption) ?_) | (refine AW.condF rfl rfl (by first | rfl | assumption) ?_) | ((first | refine AL.ld rfl ?_ | refine AL.bx rfl ?_ | refine AL.lt rfl ?_ | refine AL.ap rfl rfl ?_ | refine AL.ca rfl ?_ | refine AL.pu rfl ?_); simp (disch := omega) only [push_cast, ↓reduceIte, reduceCtorEq, Nat.reduceAdd, Nat.reduceMul, Nat.reduceLeDiff, Nat.reduceLT, Nat.reduceSub, Int.reduceNe, Int.reduceEq, Int.reduceLE, Int.reduceLT, Int.reduceToNat, W5.bx.ld])))
  refine AW.joinF [49, 50, 51, 52, 53, 54] (fun g M' => ∃ w', WSt M M1.length (.box [.int .i64 a.origin, p, .int .u32 a.hop, .int .u32 a.med, .int .u32 a.pref, .bool a.hasMed, .bool a.hasPref, c]) w' (out4 ++ (if a.hasPref = true then oneP 64 5 (foursL [a.pref]) else [])) M') ?_ ?_
  · cases hm : a.hasPref with
    | false =>
      rw [hm] at W5
      (repeat (first | refine st ?_ | (refine And.intro (by omega) ?_) | (refine AW.condT rfl rfl (by first | rfl | assumption) ?_) | (refine AW.condF rfl rfl (by first | rfl | assumption) ?_) | ((first | refine AL.ld rfl ?_ | refine AL.bx rfl ?_ | refine AL.lt rfl ?_ | refine AL.ap rfl rfl ?_ | refine AL.ca rfl ?_ | refine AL.pu rfl ?_); simp (disch := omega) only [push_cast, ↓reduceIte, reduceCtorEq, Nat.reduceAdd, Nat.reduceMul, Nat.reduceLeDiff, Nat.reduceLT, Nat.reduceSub, Int.reduceNe, Int.reduceEq, Int.reduceLE, Int.reduceLT, Int.reduceToNat])))
      exact ⟨(over_self _ _).symm, w4, by simpa using W5⟩
    | true =>
      rw [hm] at W5
      (repeat (first | refine st ?_ | (refine And.intro (by omega) ?_) | (refine AW.condT rfl rfl (by first | rfl | assumption) ?_) | (refine AW.condF rfl rfl (by first | rfl | assumption) ?_) | ((first | refine AL.ld rfl ?_ | refine AL.bx rfl ?_ | refine AL.lt rfl ?_ | refine AL.ap rfl rfl ?_ | refine AL.ca rfl ?_ | refine AL.pu rfl ?_); simp (disch := omega) only [push_cast, ↓reduceIte, reduceCtorEq, Nat.reduceAdd, Nat.reduceMul, Nat.reduceLeDiff, Nat.reduceLT, Nat.reduceSub, Int.reduceNe, Int.reduceEq, Int.reduceLE, Int.reduceLT, Int.reduceToNat, W5.bx.ld])))
      refine nums1K g4 ?_
      intro r M6 hN6 hF6
      (repeat (first | refine st ?_ | (refine And.intro (by omega) ?_) | (refine AW.condT rfl rfl (by first | rfl | assumption) ?_) | (refine AW.condF rfl rfl (by first | rfl | assumption) ?_) | ((first | refine AL.ld rfl ?_ | refine AL.bx rfl ?_ | refine AL.lt rfl ?_ | refine AL.ap rfl rfl ?_ | refine AL.ca rfl ?_ | refine AL.pu rfl ?_); simp (disch := omega) only [push_cast, ↓reduceIte, reduceCtorEq, Nat.reduceAdd, Nat.reduceMul, Nat.reduceLeDiff, Nat.reduceLT, Nat.reduceSub, Int.reduceNe, Int.reduceEq, Int.reduceLE, Int.reduceLT, Int.reduceToNat])))
      refine wputK (W5.keep hF6) hN6.sl (W5.sep hN6.blk) (by rw [foursL_length]; simp) (by omega) (fl := 64) rfl (.inl rfl) ?_
      intro r w4 M7 W6
      (repeat (first | refine st ?_ | (refine And.intro (by omega) ?_) | (refine AW.condT rfl rfl (by first | rfl | assumption) ?_) | (refine AW.condF rfl rfl (by first | rfl | assumption) ?_) | ((first | refine AL.ld rfl ?_ | refine AL.bx rfl ?_ | refine AL.lt rfl ?_ | refine AL.ap rfl rfl ?_ | refine AL.ca rfl ?_ | refine AL.pu rfl ?_); simp (disch := omega) only [push_cast, ↓reduceIte, reduceCtorEq, Nat.reduceAdd, Nat.reduceMul, Nat.reduceLeDiff, Nat.reduceLT, Nat.reduceSub, Int.reduceNe, Int.reduceEq, Int.reduceLE, Int.reduceLT, Int.reduceToNat])))
      exact ⟨rfl, w4, by simpa using W6⟩
  rintro g3 M9 ⟨w5, W6⟩
  have n5' : (if a.hasPref = true then oneP 64 5 (foursL [a.pref]) else []).length ≤ 8 := by split; omega; simp
  have hsc := hc.isSl
  have hnc := hc.lnI
  (repeat (first | refine st ?_ | (refine And.intro (by omega) ?_) | (refine AW.condT rfl rfl (by first | rfl | assumption) ?_) | (refine AW.condF rfl rfl (by first | rfl | assumption) ?_) | ((first | refine AL.ld rfl ?_ | refine AL.bx rfl ?_ | refine AL.lt rfl ?_ | refine AL.ap rfl rfl ?_ | refine AL.ca rfl ?_ | refine AL.pu rfl ?_); simp (disch := omega) only [push_cast, ↓reduceIte, reduceCtorEq, Nat.reduceAdd, Nat.reduceMul, Nat.reduceLeDiff, Nat.reduceLT, Nat.reduceSub, Int.reduceNe, Int.reduceEq, Int.reduceLE, Int.reduceLT, Int.reduceToNat, W6.bx.ld, hsc, hnc])))
  refine AW.joinF [59, 60, 61, 62, 63] (fun g M' => ∃ w', WSt M M1.length (.box [.int .i64 a.origin, p, .int .u32 a.hop, .int .u32 a.med, .int .u32 a.pref, .bool a.hasMed, .bool a.hasPref, c]) w' (putP a) M') ?_ ?_
  · by_cases cc : a.comms = []
    · have d : decide ((a.comms.length : Int) > 0) = false := by rw [cc]; rfl
      (repeat (first | refine st ?_ | (refine And.intro (by omega) ?_) | (refine AW.condT rfl rfl (by first | rfl | assumption) ?_) | (refine AW.condF rfl rfl (by first | rfl | assumption) ?_) | ((first | refine AL.ld rfl ?_ | refine AL.bx rfl ?_ | refine AL.lt rfl ?_ | refine AL.ap rfl rfl ?_ | refine AL.ca rfl ?_ | refine AL.pu rfl ?_); simp (disch := omega) only [push_cast, ↓reduceIte, reduceCtorEq, Nat.reduceAdd, Nat.reduceMul, Nat.reduceLeDiff, Nat.reduceLT, Nat.reduceSub, Int.reduceNe, Int.reduceEq, Int.reduceLE, Int.reduceLT, Int.reduceToNat, d])))
      have e : putP a = out4 ++ (if a.hasPref = true then oneP 64 5 (foursL [a.pref]) else []) := by unfold putP; rw [hout, cc]; simp
      rw [e]
      exact ⟨(over_self _ _).symm, w5, W6⟩
    · have d : decide ((a.comms.length : Int) > 0) = true := decide_eq_true (by have := List.length_pos_iff.2 cc; omega)
      (repeat (first | refine st ?_ | (refine And.intro (by omega) ?_) | (refine AW.condT rfl rfl (by first | rfl | assumption) ?_) | (refine AW.condF rfl rfl (by first | rfl | assumption) ?_) | ((first | refine AL.ld rfl ?_ | refine AL.bx rfl ?_ | refine AL.lt rfl ?_ | refine AL.ap rfl rfl ?_ | refine AL.ca rfl ?_ | refine AL.pu rfl ?_); simp (disch := omega) only [push_cast, ↓reduceIte, reduceCtorEq, Nat.reduceAdd, Nat.reduceMul, Nat.reduceLeDiff, Nat.reduceLT, Nat.reduceSub, Int.reduceNe, Int.reduceEq, Int.reduceLE, Int.reduceLT, Int.reduceToNat, d, W6.bx.ld])))
      refine (anums_spec c a.comms _ (hc.keep W6.fr (by simp)) g5 h2).mono ?_
      rintro r M10 ⟨hN6, hF6⟩
      (repeat (first | refine st ?_ | (refine And.intro (by omega) ?_) | (refine AW.condT rfl rfl (by first | rfl | assumption) ?_) | (refine AW.condF rfl rfl (by first | rfl | assumption) ?_) | ((first | refine AL.ld rfl ?_ | refine AL.bx rfl ?_ | refine AL.lt rfl ?_ | refine AL.ap rfl rfl ?_ | refine AL.ca rfl ?_ | refine AL.pu rfl ?_); simp (disch := omega) only [push_cast, ↓reduceIte, reduceCtorEq, Nat.reduceAdd, Nat.reduceMul, Nat.reduceLeDiff, Nat.reduceLT, Nat.reduceSub, Int.reduceNe, Int.reduceEq, Int.reduceLE, Int.reduceLT, Int.reduceToNat])))
      refine wputK (W6.keep hF6) hN6.sl (W6.sep hN6.blk) (by rw [foursL_length]; omega) (by rw [List.length_append]; omega) (fl := 192) rfl (.inr (.inr rfl)) ?_
      intro r w4 M7 W7
      (repeat (first | refine st ?_ | (refine And.intro (by omega) ?_) | (refine AW.condT rfl rfl (by first | rfl | assumption) ?_) | (refine AW.condF rfl rfl (by first | rfl | assumption) ?_) | ((first | refine AL.ld rfl ?_ | refine AL.bx rfl ?_ | refine AL.lt rfl ?_ | refine AL.ap rfl rfl ?_ | refine AL.ca rfl ?_ | refine AL.pu rfl ?_); simp (disch := omega) only [push_cast, ↓reduceIte, reduceCtorEq, Nat.reduceAdd, Nat.reduceMul, Nat.reduceLeDiff, Nat.reduceLT, Nat.reduceSub, Int.reduceNe, Int.reduceEq, Int.reduceLE, Int.reduceLT, Int.reduceToNat])))
      have e : putP a = out4 ++ (if a.hasPref = true then oneP 64 5 (foursL [a.pref]) else []) ++ oneP 192 8 (foursL a.comms) := by unfold putP; rw [hout, if_neg cc]
      rw [e]
      exact ⟨rfl, w4, W7⟩
  rintro g4 M11 ⟨w6, W8⟩
  (repeat (first | refine st ?_ | (refine And.intro (by omega) ?_) | (refine AW.condT rfl rfl (by first | rfl | assumption) ?_) | (refine AW.condF rfl rfl (by first | rfl | assumption) ?_) | ((first | refine AL.ld rfl ?_ | refine AL.bx rfl ?_ | refine AL.lt rfl ?_ | refine AL.ap rfl rfl ?_ | refine AL.ca rfl ?_ | refine AL.pu rfl ?_); simp (disch := omega) only [push_cast, ↓reduceIte, reduceCtorEq, Nat.reduceAdd, Nat.reduceMul, Nat.reduceLeDiff, Nat.reduceLT, Nat.reduceSub, Int.reduceNe, Int.reduceEq, Int.reduceLE, Int.reduceLT, Int.reduceToNat, W8.wr.ld])))
  ((first | refine retA.ret (by rfl) ?_ | refine retA.normal (by rfl) ?_); simp (disch := omega) only [push_cast, ↓reduceIte, reduceCtorEq, Nat.reduceAdd, Nat.reduceMul, Nat.reduceLeDiff, Nat.reduceLT, Nat.reduceSub, Int.reduceNe, Int.reduceEq, Int.reduceLE, Int.reduceLT, Int.reduceToNat])
  exact ⟨W8.fr, .inl ⟨hr, w6, rfl, W8.own, fun a' n' c' e hc0 => by have := W8.blk a'.block (by rw [e]; simp [blkOf, hc0]); have := W8.lt; omega⟩⟩

end Go.Proofs.Ytbjipdmbdabniaa.Ax
