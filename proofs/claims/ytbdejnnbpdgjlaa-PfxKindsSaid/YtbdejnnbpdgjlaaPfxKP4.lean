/- Contracts of functions over the abstract machine. No conditions: lemmas alone. -/
import Derived.Test.YtbdejnnbpdgjlaaPfxKLibD
import Derived.Test.YtbdejnnbpdgjlaaPfxKP0
import Derived.Test.YtbdejnnbpdgjlaaPfxKP3
namespace Go.Proofs.Ytbdejnnbpdgjlaa.Ax
open Go Go.RowKit
open Nat renaming reduceAdd → ν1, reduceMul → ν2, reduceLeDiff → ν3, reduceLT → ν4, reduceSub → ν5
open Int renaming reduceNe → ζ1, reduceEq → ζ2, reduceLE → ζ3, reduceLT → ζ4, reduceToNat → ζ5
set_option linter.unusedVariables false
set_option linter.unusedSimpArgs false
set_option maxRecDepth 100000
set_option maxHeartbeats 20000000
attribute [local irreducible] thenA blockA scopeA retA AL AW AD ADL AH clrK CallA apure aload bload appK ptrK fnK ares szOk planOk okOps
theorem AW.rangeG {P : Program} {M : Mem} {t : List Value} {ps : Array Tmp} {assign body : Code} {g : Operand} {Q : Exit → List Value → Mem → Prop} (J : Nat → Mem → Prop) (A : Nat → List Value) (n : Nat) (hok : okOpd g = true) {gf : FuncId} {capt : List Value} (hg : ev t g = .func (.func gf) #[] ⟨capt⟩)
  (hps : ∀ k, (A k).length = ps.size) (ht1 : tops assign = false) (ht2 : tops body = false)
  (hJ : ∀ k M' B, J k M' → J k (M'.set M.length B))
  (it : ∀ (JJ : Nat → Mem → Prop), (∀ k M', JJ k M' → J k M') → (∀ k M', k < n → JJ k M' → YieldA P M.length (A k) M' fun b M'' => b = true ∧ JJ (k + 1) M'') → ∀ M', JJ 0 M' → CallA P gf (.func (.yield M.length) #[] #[] :: capt) M' fun _ M'' => JJ n M'')
  (h0 : ∀ B, J 0 (M ++ [B]))
  (round : ∀ k M' B, k < n → J k M' → M'[M.length]? = some B → AW P assign (fun e t1 M1 => e = .normal ∧ M1[M.length]? = some B ∧ ∀ B', AW P body (fun e t2 M2 => e = .normal ∧ M2[M.length]? = some B' ∧ J (k + 1) M2) t1 (M1.set M.length B')) (setAll t (ps.toList.zip (A k))) M')
  (hend : ∀ M', J n M' → Q .normal t M') : AW P (.rangeFunc g ps assign body) Q t M := by
 refine AW.range hok hg ?_
 obtain ⟨rec, hrec⟩ : ∃ rec, rec = Blk.loop .ready none t ps assign body := ⟨_, rfl⟩
 rw [← hrec]
 refine (it (fun k M' => M'[M.length]? = some rec ∧ J k M') (fun k M' h => h.2) (fun k M' hk hJJ => ?_) _ ⟨by simp, h0 _⟩).mono ?_
 ·subst hrec
  refine YieldA.of_round hJJ.1 (hps k) ht1 ht2 ?_
  refine (round k M' _ hk hJJ.2 hJJ.1).mono ?_
  rintro e t1 M1 ⟨rfl, h1, hb⟩
  refine ⟨rfl, h1, (hb (.loop .busy none t ps assign body)).mono ?_⟩
  rintro e t2 M2 ⟨rfl, h2, h3⟩
  have hlt2 : M.length < M2.length := (List.getElem?_eq_some_iff.1 h2).1
  exact ⟨h2, rfl, List.getElem?_set_self hlt2, hJ _ _ _ h3⟩
 ·rintro v M' ⟨h1, h2⟩
  subst hrec
  exact ⟨.ready, none, h1, by simp, hend _ (hJ _ _ _ h2)⟩
def flatS (out : List RG) (e : PE) : List RG := if rightR e.r then out.flatMap (fun x => minusP x e.r) ++ (if e.deny then [] else [e.r]) else out
def flatN (es : List PE) (k : Nat) : List RG := (es.reverse.take k).foldl flatS []
theorem flatN_succ {es : List PE} {k : Nat} {e : PE} (hk : k < es.length) (h : es[es.length - 1 - k]? = some e) : flatN es (k + 1) = flatS (flatN es k) e := by
 have hr : es.reverse[k]? = some e := by rw [List.getElem?_reverse hk]; exact h
 unfold flatN
 rw [List.take_add_one, hr, Option.toList_some, List.foldl_append]; rfl
theorem rgs_cut : ∀ {os : List RG} {i : Nat} {p : RG}, os[i]? = some p → ((rgs os).drop (i * 4)).take 4 = rgL p
 | [], i, w, h => by simp at h
 | x :: os, 0, w, h => by simp at h; subst h; rfl
 | x :: os, i + 1, w, h => by
  have := rgs_cut (os := os) (i := i) (p := w) (by simpa using h)
  rw [← this]
  show ((rgL x ++ rgs os).drop ((i + 1) * 4)).take 4 = _
  rw [show (i + 1) * 4 = 4 + i * 4 by omega, ← List.drop_drop]
  congr 1
theorem rg_load {i : Nat} {os : List RG} {p : RG} {M : Mem} {v : Value} (hv : Sl M v 4 (rgs os)) (hi : os[i]? = some p) : aload Try.prog 36 M (sbk v) (sof v + i * 4) = some (.agg ⟨rgL p⟩) := by
 have hl : i < os.length := (List.getElem?_eq_some_iff.1 hi).1
 have hc := hv.cellsM (j := i * 4) (n := 4) (by omega) (by rw [rgs_length]; omega)
 rw [rgs_cut hi] at hc
 unfold aload
 rw [Try.underlying36]
 simp only [show tsz Try.prog 36 = some 4 by kernel_rfl, Option.bind_some]
 rw [hc]; rfl
theorem flen {f : RG → List RG} {n : Nat} : ∀ {l : List RG}, (∀ r ∈ l, (f r).length ≤ n) → (l.flatMap f).length ≤ l.length * n
 | [], _ => by simp
 | a :: l, h => by
  have h1 := h a (by simp)
  have h2 := flen (l := l) (fun r hr => h r (by simp [hr]))
  rw [List.flatMap_cons, List.length_append, List.length_cons, Nat.add_mul]
  omega
theorem Sl.lnR {M : Mem} {v : Value} {os : List RG} (h : Sl M v 4 (rgs os)) : sln v = os.length := by have := h.len; rw [rgs_length] at this; omega
theorem peL_len (r : PE) : (peL r).length = 5 := rfl
theorem peL_drop (r : PE) : List.drop 5 (peL r) = [] := rfl
theorem peL_take (r : PE) : List.take 5 (peL r) = peL r := rfl
theorem peL_one (r : PE) : (peL r).all Value.oneCell' = true := rfl
theorem peL_ld (P : Program) (ty : TypeId) (r : PE) (j : Nat) : bload P ty (peL r) j = bload P ty [.bool r.deny, .int .u32 r.r.base.1, .int .i64 r.r.base.2, .int .i64 r.r.ge, .int .i64 r.r.le] j := rfl
theorem flat_spec (v : Value) (es : List PE) (M : Mem) (hv : Sl M v 5 (pes es)) (hl : es.length ≤ 1000) (hg : ∀ e ∈ es, goodR e.r) (hx : ∀ k ≤ es.length, (flatN es k).length ≤ 1024) (hgo : ∀ k ≤ es.length, ∀ r ∈ flatN es k, goodR r) (hm : ∀ k ≤ es.length, ∀ r ∈ flatN es k, ∀ e ∈ es, (minusP r e.r).length ≤ 40) :
  CallA Try.prog 40 [v] M fun r M' => Fr M M' [] ∧ ∃ w, r = .tuple ⟨[w, .int .i64 0]⟩ ∧ New M M' w 4 (rgs (flatN es es.length)) := by
 have P0 : Fr M (M ++ [.box [.slice none 0 0], .box [.int .i64 0], .box [.slice none 0 0]]) [] := ⟨by simp, fun b hb _ => List.getElem?_append_left hb⟩
 have s0 := hv.isSl
 have n0 := hv.lnP
 (refine CallA.of_body Try.func40 rfl (by rfl) ?_; simp only [Try.ntmps40, List.length_cons, List.length_nil, List.replicate, List.cons_append, List.nil_append, Nat.reduceSub, Nat.reduceAdd])
 (repeat (first | refine st ?_ | refine σa ?_ | (refine σb ?_; simp (disch := omega) only [push_cast, ↓reduceIte, reduceCtorEq, ν1, ν2, ν3, ν4, ν5, ζ1, ζ2, ζ3, ζ4, ζ5, lsE])))
 refine (bw_spec v _ s0).mono ?_
 rintro r M1 ⟨rfl, rfl⟩
 (repeat (first | refine st ?_ | refine σa ?_ | (refine σb ?_; simp (disch := omega) only [push_cast, ↓reduceIte, reduceCtorEq, ν1, ν2, ν3, ν4, ν5, ζ1, ζ2, ζ3, ζ4, ζ5, lsE])))
 obtain ⟨n, hn⟩ : ∃ n, n = M.length := ⟨_, rfl⟩
 simp only [List.length_append, List.length_cons, List.length_nil, Nat.zero_add, ← hn]
 have hlen : (M ++ [Blk.box [Value.slice none 0 0]] ++ [Blk.box [Value.int IntKind.i64 0]] ++ [Blk.box [Value.slice none 0 0]] ++ [Blk.box [v]]).length = n + 4 := by simp [hn]
 refine AW.rangeG (fun k M' => Fr M M' [] ∧ At M' n (.box [.slice none 0 0]) ∧ At M' (n + 1) (.box [.int .i64 0]) ∧ At M' (n + 3) (.box [v]) ∧ ∃ out, At M' (n + 2) (.box [out]) ∧ New M M' out 4 (rgs (flatN es k)) ∧ ∀ b ∈ blkOf out, n + 4 < b)
  (fun k => [.int .i64 ((es.length : Int) - 1 - k), .agg ⟨peL (es.getD (es.length - 1 - k) ⟨false, RG.zero⟩)⟩]) es.length rfl rfl (fun _ => rfl) rfl rfl ?_ ?_ ?_ ?_ ?_
 ·rintro k M' B ⟨h1, h2, h3, h4, out, h5, h6, h7⟩
  rw [hlen]
  have hf := Fr.set M' (n + 4) B
  exact ⟨(h1.trans hf).cut (by intro x hx hlt; simp at hx; omega), h2.keep hf (by simp), h3.keep hf (by simp), h4.keep hf (by simp), out, h5.keep hf (by simp), h6.keep hf (fun b hb hx => by have := h7 b hb; simp at hx; omega), h7⟩
 ·intro JJ hJJ hy M' h0
  refine bw1_spec (J := JJ) s0 n0 (by omega) (fun k M' h => ⟨(hJJ k M' h).2.2.2.1, hv.keep (hJJ k M' h).1 (by simp)⟩) (fun k M' e hk he h => ?_) h0
  have := hy k M' hk h
  rw [List.getD_eq_getElem?_getD, he] at this
  exact this
 ·intro B
  have hf : Fr M (M ++ [Blk.box [Value.slice none 0 0]] ++ [Blk.box [Value.int IntKind.i64 0]] ++ [Blk.box [Value.slice none 0 0]] ++ [Blk.box [v]] ++ [B]) [] := ⟨by simp, fun b hb _ => by simp only [List.append_assoc]; rw [List.getElem?_append_left hb]⟩
  refine ⟨hf, ⟨by simp [hn]⟩, ⟨by simp [hn]⟩, ⟨by simp [hn]⟩, .slice none 0 0, ⟨by simp [hn]⟩, ⟨(Own.nil _ (by omega) : Own _ (.slice none 0 0) 4 []), fun a n c h => by cases h⟩, fun b hb => by cases hb⟩
 ·rintro k M' B hk ⟨h1, h2, h3, h4, out, h5, h6, h7⟩ hB
  simp (disch := omega) only [push_cast, ↓reduceIte, reduceCtorEq, Nat.reduceAdd, Nat.reduceMul, Nat.reduceLeDiff, Nat.reduceLT, Nat.reduceSub, Int.reduceNe, Int.reduceEq, Int.reduceLE, Int.reduceLT, Int.reduceToNat, setAll, List.zip_cons_cons, List.zip_nil_left]
  obtain ⟨e, he⟩ : ∃ e, es[es.length - 1 - k]? = some e := ⟨_, List.getElem?_eq_getElem (by omega)⟩
  have hem : e ∈ es := List.mem_of_getElem? he
  have hge := hg e hem
  have hsu := flatN_succ hk he
  rw [List.getD_eq_getElem?_getD, he]
  simp only [Option.getD_some]
  refine AW.region ?_
  (repeat (first | refine st ?_ | refine σa ?_ | (refine σb ?_; simp (disch := omega) only [push_cast, ↓reduceIte, reduceCtorEq, ν1, ν2, ν3, ν4, ν5, ζ1, ζ2, ζ3, ζ4, ζ5, peL_len, peL_drop, peL_take, peL_one, memE, boxE, boxE, buildE, lsE])))
  have lB := (List.getElem?_eq_some_iff.1 hB).1
  rw [hlen] at hB ⊢
  refine ⟨by rw [List.getElem?_append_left (by omega)]; exact hB, ?_⟩
  intro B'
  have Fe : Fr M' ((M' ++ [Blk.box (peL e)]).set (n + 4) B') [n + 4] := ⟨by simp, fun b hb hx => by rw [List.getElem?_set_ne (by intro h; simp at hx; omega), List.getElem?_append_left hb]⟩
  obtain ⟨N, hN⟩ : ∃ N, N = (M' ++ [Blk.box (peL e)]).set (n + 4) B' := ⟨_, rfl⟩
  have lN : N.length = M'.length + 1 := by rw [hN]; simp
  have aE : At N M'.length (.box (peL e)) := ⟨by rw [hN, List.getElem?_set_ne (by omega)]; simp⟩
  have hB' : N[n + 4]? = some B' := by rw [hN, List.getElem?_set_self (by simp; omega)]
  rw [← hN] at Fe ⊢
  clear hN
  have g2 := h2.keep Fe (by simp)
  have g3 := h3.keep Fe (by simp)
  have g4 := h4.keep Fe (by simp)
  have g5 := h5.keep Fe (by simp)
  have g6 := h6.keep Fe (fun b hb hx => by have := h7 b hb; simp at hx; omega)
  have g1 : Fr M N [] := (h1.trans Fe).cut (by intro x hx hlt; simp at hx; omega)
  (repeat (first | refine st ?_ | refine σa ?_ | (refine σb ?_; simp (disch := omega) only [push_cast, ↓reduceIte, reduceCtorEq, ν1, ν2, ν3, ν4, ν5, ζ1, ζ2, ζ3, ζ4, ζ5, aE.ld, peL_ld, memE, boxE, buildE, lsE])))
  refine (pfright_spec e.r N hge).mono ?_
  rintro r N1 ⟨F1, rfl⟩
  have lN1 := F1.1
  have aE1 := aE.keep F1 (by simp)
  have hB1 : N1[n + 4]? = some B' := by rw [F1.2 _ (by omega) (by simp)]; exact hB'
  have k2 := g2.keep F1 (by simp)
  have k3 := g3.keep F1 (by simp)
  have k4 := g4.keep F1 (by simp)
  have k5 := g5.keep F1 (by simp)
  have k6 := g6.keep F1 (by simp)
  have k1 := g1.tr F1
  by_cases ra : rightR e.r
  rotate_left
  ·rw [decide_eq_false ra]
   (repeat (first | refine st ?_ | refine σa ?_ | (refine σb ?_; simp (disch := omega) only [push_cast, ↓reduceIte, reduceCtorEq, ν1, ν2, ν3, ν4, ν5, ζ1, ζ2, ζ3, ζ4, ζ5, Bool.not_true, Bool.not_false, lsE])))
   have ef : flatN es (k + 1) = flatN es k := by rw [hsu]; unfold flatS; rw [if_neg ra]
   exact ⟨rfl, hB1, k1, k2, k3, k4, out, k5, by rw [ef]; exact k6, h7⟩
  rw [decide_eq_true ra]
  have c6 := isSl_cl k6.1.sl.isSl
  have n6 : sln out = (flatN es k).length := by have := k6.1.sl.lnR; exact this
  (repeat (first | refine st ?_ | refine σa ?_ | (refine σb ?_; simp (disch := omega) only [push_cast, ↓reduceIte, reduceCtorEq, ν1, ν2, ν3, ν4, ν5, ζ1, ζ2, ζ3, ζ4, ζ5, Bool.not_true, Bool.not_false, lsE])))
  have e2 : n + 1 + 1 = n + 2 := rfl
  simp (disch := omega) only [push_cast, ↓reduceIte, reduceCtorEq, Nat.reduceAdd, Nat.reduceMul, Nat.reduceLeDiff, Nat.reduceLT, Nat.reduceSub, Int.reduceNe, Int.reduceEq, Int.reduceLE, Int.reduceLT, Int.reduceToNat, e2, k5.ld]
  (repeat (first | refine st ?_ | refine σa ?_ | (refine σb ?_; simp (disch := omega) only [push_cast, ↓reduceIte, reduceCtorEq, ν1, ν2, ν3, ν4, ν5, ζ1, ζ2, ζ3, ζ4, ζ5, n6, k6.1.sl.isSl, buildE, lsE])))
  obtain ⟨os, hos⟩ : ∃ os, os = flatN es k := ⟨_, rfl⟩
  have lo : os.length ≤ 1024 := by rw [hos]; exact hx k (by omega)
  have gos : ∀ r ∈ os, goodR r := by rw [hos]; exact hgo k (by omega)
  have mos : ∀ r ∈ os, (minusP r e.r).length ≤ 40 := by rw [hos]; exact fun r hr => hm k (by omega) r hr e hem
  rw [← hos] at k6 n6 hsu ⊢
  have aslt := k6.1.sl
  refine AW.loopF [7, 9, 20, 21, 22, 23, 24, 25, 26, 27, 28, 29, 30] (fun m f M'' => ∃ i : Nat, ∃ left, f 20 = .int .i64 i ∧ f 7 = left ∧ i ≤ os.length ∧ m = os.length - i ∧ Fr N1 M'' [] ∧ New N1 M'' left 4 (rgs ((os.take i).flatMap fun x => minusP x e.r))) os.length ?_ ?_
  ·exact ⟨0, .slice none 0 0, rfl, rfl, by omega, by omega, Fr.refl _, ⟨(Own.nil _ (by omega) : Own _ (.slice none 0 0) 4 []), fun a n c h => by cases h⟩⟩
  rintro m f M2 ⟨i, left, h20, rfl, hi, rfl, F2, n2⟩
  simp (disch := omega) only [push_cast, ↓reduceIte, reduceCtorEq, Nat.reduceAdd, Nat.reduceMul, Nat.reduceLeDiff, Nat.reduceLT, Nat.reduceSub, Int.reduceNe, Int.reduceEq, Int.reduceLE, Int.reduceLT, Int.reduceToNat, h20]
  by_cases ci : i < os.length
  rotate_left
  ·have d : decide ((i : Int) < (os.length : Int)) = false := decide_eq_false (by omega)
   obtain rfl : i = os.length := by omega
   rw [List.take_length] at n2
   have aE2 := aE1.keep F2 (by simp)
   (repeat (first | refine st ?_ | refine σa ?_ | (refine σb ?_; simp (disch := omega) only [push_cast, ↓reduceIte, reduceCtorEq, ν1, ν2, ν3, ν4, ν5, ζ1, ζ2, ζ3, ζ4, ζ5, d, lsE])))
   simp (disch := omega) only [push_cast, ↓reduceIte, reduceCtorEq, Nat.reduceAdd, Nat.reduceMul, Nat.reduceLeDiff, Nat.reduceLT, Nat.reduceSub, Int.reduceNe, Int.reduceEq, Int.reduceLE, Int.reduceLT, Int.reduceToNat, aE2.ld, peL_ld, memE, boxE]
   (repeat (first | refine st ?_ | refine σa ?_ | (refine σb ?_; simp (disch := omega) only [push_cast, ↓reduceIte, reduceCtorEq, ν1, ν2, ν3, ν4, ν5, ζ1, ζ2, ζ3, ζ4, ζ5, lsE])))
   cases hd : e.deny with
   | true =>
    have Fs := Fr.set M2 (n + 2) (.box [(f 7)])
    have a2 := (k2.keep F2 (by simp)).keep Fs (by simp)
    have a3 := (k3.keep F2 (by simp)).keep Fs (by simp)
    have a4 := (k4.keep F2 (by simp)).keep Fs (by simp)
    have a5 := k5.keep F2 (by simp)
    have a6 := a5.set (.box [(f 7)])
    have bL : ∀ b ∈ blkOf (f 7), n + 4 < b := fun b hb => by have := n2.blk b hb; omega
    have nL := n2.keep Fs (fun b hb hx => by have := bL b hb; simp at hx; omega)
    have cL := isSl_cl n2.1.sl.isSl
    have oL := isSl_one n2.1.sl.isSl
    simp only [Value.oneCell'] at oL
    have sL := n2.1.sl.isSl
    have nlL := n2.1.sl.lnR
    have ef : flatN es (k + 1) = os.flatMap fun x => minusP x e.r := by rw [hsu]; unfold flatS; rw [if_pos ra, hd]; simp
    have lL := hx (k + 1) (by omega)
    rw [ef] at lL
    have dL : decide (((os.flatMap fun x => minusP x e.r).length : Int) > 1024) = false := decide_eq_false (by omega)
    (repeat (first | refine st ?_ | refine σa ?_ | (refine σb ?_; simp (disch := omega) only [push_cast, ↓reduceIte, reduceCtorEq, ν1, ν2, ν3, ν4, ν5, ζ1, ζ2, ζ3, ζ4, ζ5, Bool.not_true, Bool.not_false, a5.get, a5.same, cL, oL, List.drop_nil, List.append_nil, boxE, lsE])))
    simp (disch := omega) only [push_cast, ↓reduceIte, reduceCtorEq, Nat.reduceAdd, Nat.reduceMul, Nat.reduceLeDiff, Nat.reduceLT, Nat.reduceSub, Int.reduceNe, Int.reduceEq, Int.reduceLE, Int.reduceLT, Int.reduceToNat, a6.ld]
    (repeat (first | refine st ?_ | refine σa ?_ | (refine σb ?_; simp (disch := omega) only [push_cast, ↓reduceIte, reduceCtorEq, ν1, ν2, ν3, ν4, ν5, ζ1, ζ2, ζ3, ζ4, ζ5, a6.ld, cL, sL, nlL, dL, lsE])))
    have hB3 : (M2.set (n + 2) (.box [(f 7)]))[n + 4]? = some B' := by rw [List.getElem?_set_ne (by omega), F2.2 _ (by omega) (by simp)]; exact hB1
    refine ⟨rfl, hB3, ((k1.tr F2).trans Fs).cut (by intro x hx hlt; simp at hx; omega), a2, a3, a4, (f 7), a6, ?_, bL⟩
    rw [ef]
    exact ⟨nL.1, fun a b c h h0 => Nat.le_trans (by omega) (nL.2 a b c h h0)⟩
   | false =>
    (repeat (first | refine st ?_ | refine σa ?_ | (refine σb ?_; simp (disch := omega) only [push_cast, ↓reduceIte, reduceCtorEq, ν1, ν2, ν3, ν4, ν5, ζ1, ζ2, ζ3, ζ4, ζ5, Bool.not_true, Bool.not_false, aE2.ld, peL_ld, memE, boxE, buildE, lsE])))
    have hr := New.row M2 (s := 4) (n := 1) (cs := rgL e.r) (by omega) rfl rfl (by decide)
    have P1 := Fr.push M2 (.row true 4 (rgL e.r))
    have lm := flen (l := os) mos
    refine appK.elems (P := Try.prog) (e := 36) (s := 4) (bt := 32) (z := [.int .u32 0, .int .i64 0, .int .i64 0, .int .i64 0]) (by kernel_rfl) (by kernel_rfl) (by kernel_rfl) rfl (by kernel_rfl) (by decide) (n2.1.keep P1 (by simp)) hr.sl (by rw [rgs_length]; show (_ * 4 + 4) * _ ≤ _; omega) ?_
    intro w' M4 hN hF
    have FA : Fr N1 M4 [] := ((F2.tr P1).trans hF).cut (fun x hx hlt => by simp at hx; have := n2.blk x hx; omega)
    have nA : New N1 M4 w' 4 (rgs ((os.flatMap fun x => minusP x e.r) ++ [e.r])) := by
     have e2 : rgs (os.flatMap fun x => minusP x e.r) ++ rgL e.r = rgs ((os.flatMap fun x => minusP x e.r) ++ [e.r]) := by rw [rgs_append, rgs_one4]
     rw [← e2]
     exact ⟨hN.1, fun a b c h h0 => Nat.le_trans (Nat.le_trans F2.1 P1.1) (hN.2 a b c h h0)⟩
    have Fs := Fr.set M4 (n + 2) (.box [w'])
    have a2 := (k2.keep FA (by simp)).keep Fs (by simp)
    have a3 := (k3.keep FA (by simp)).keep Fs (by simp)
    have a4 := (k4.keep FA (by simp)).keep Fs (by simp)
    have a5 := k5.keep FA (by simp)
    have a6 := a5.set (.box [w'])
    have bL : ∀ b ∈ blkOf w', n + 4 < b := fun b hb => by have := nA.blk b hb; omega
    have nL := nA.keep Fs (fun b hb hx => by have := bL b hb; simp at hx; omega)
    have cL := isSl_cl nA.1.sl.isSl
    have oL := isSl_one nA.1.sl.isSl
    simp only [Value.oneCell'] at oL
    have sL := nA.1.sl.isSl
    have nlL := nA.1.sl.lnR
    have ef : flatN es (k + 1) = (os.flatMap fun x => minusP x e.r) ++ [e.r] := by rw [hsu]; unfold flatS; rw [if_pos ra, hd]; simp
    have lL := hx (k + 1) (by omega)
    rw [ef] at lL
    have dL : decide ((((os.flatMap fun x => minusP x e.r) ++ [e.r]).length : Int) > 1024) = false := decide_eq_false (by omega)
    (repeat (first | refine st ?_ | refine σa ?_ | (refine σb ?_; simp (disch := omega) only [push_cast, ↓reduceIte, reduceCtorEq, ν1, ν2, ν3, ν4, ν5, ζ1, ζ2, ζ3, ζ4, ζ5, a5.get, a5.same, cL, oL, List.drop_nil, List.append_nil, boxE, lsE])))
    simp (disch := omega) only [push_cast, ↓reduceIte, reduceCtorEq, Nat.reduceAdd, Nat.reduceMul, Nat.reduceLeDiff, Nat.reduceLT, Nat.reduceSub, Int.reduceNe, Int.reduceEq, Int.reduceLE, Int.reduceLT, Int.reduceToNat, a6.ld]
    (repeat (first | refine st ?_ | refine σa ?_ | (refine σb ?_; simp (disch := omega) only [push_cast, ↓reduceIte, reduceCtorEq, ν1, ν2, ν3, ν4, ν5, ζ1, ζ2, ζ3, ζ4, ζ5, a6.ld, cL, sL, nlL, dL, lsE])))
    have hB3 : (M4.set (n + 2) (.box [w']))[n + 4]? = some B' := by rw [List.getElem?_set_ne (by omega), FA.2 _ (by omega) (by simp)]; exact hB1
    refine ⟨rfl, hB3, ((k1.tr FA).trans Fs).cut (by intro x hx hlt; simp at hx; omega), a2, a3, a4, w', a6, ?_, bL⟩
    rw [ef]
    exact ⟨nL.1, fun a b c h h0 => Nat.le_trans (by omega) (nL.2 a b c h h0)⟩
  have d : decide ((i : Int) < (os.length : Int)) = true := decide_eq_true (by omega)
  obtain ⟨x, hxi⟩ : ∃ x, os[i]? = some x := ⟨_, List.getElem?_eq_getElem ci⟩
  have hxm : x ∈ os := List.mem_of_getElem? hxi
  have eti : ((i : Nat) : Int).toNat = i := Int.toNat_natCast i
  have ldx := rg_load (aslt.keep F2 (by simp)) hxi
  have lj : (i : Int) < (os.length : Int) := by omega
  have l0 : (0 : Int) ≤ (i : Int) := by omega
  have aE2 := aE1.keep F2 (by simp)
  have lf2 := F2.1
  (repeat (first | refine st ?_ | refine σa ?_ | (refine σy ?_; simp (disch := omega) only [push_cast, ↓reduceIte, reduceCtorEq, ν1, ν2, ν3, ν4, ν5, ζ1, ζ2, ζ3, ζ4, ζ5, d, n6, aslt.isSl, eti, lj, l0, ldx, rgL_len, rgL_drop, rgL_take, rgL_one, memE, boxE, boxE, buildE, lsE]) | (refine AL.pu rfl ?_; simp (disch := omega) only [push_cast, ↓reduceIte, reduceCtorEq, ν1, ν2, ν3, ν4, ν5, ζ1, ζ2, ζ3, ζ4, ζ5, d, n6, aslt.isSl, eti, lj, l0, ldx, rgL_len, rgL_drop, rgL_take, rgL_one, memE, boxE, boxE, buildE, lsE]; refine id (α := AL _ _ _ _ _ _) ?_)))
  have Fx := Fr.push M2 (.box (rgL x))
  have aE3 := aE2.keep Fx (by simp)
  have aX := At.push M2 (.box (rgL x))
  simp (disch := omega) only [push_cast, ↓reduceIte, reduceCtorEq, Nat.reduceAdd, Nat.reduceMul, Nat.reduceLeDiff, Nat.reduceLT, Nat.reduceSub, Int.reduceNe, Int.reduceEq, Int.reduceLE, Int.reduceLT, Int.reduceToNat, aE3.ld, aX.ld, peL_ld, rgL_ld, memE, boxE]
  (repeat (first | refine st ?_ | refine σa ?_ | (refine σb ?_; simp (disch := omega) only [push_cast, ↓reduceIte, reduceCtorEq, ν1, ν2, ν3, ν4, ν5, ζ1, ζ2, ζ3, ζ4, ζ5, aE3.ld, aX.ld, peL_ld, rgL_ld, memE, boxE, buildE, lsE])))
  refine (pfminus_spec x e.r _ (gos x hxm) hge).mono ?_
  rintro w M3 ⟨F3, n3⟩
  have lw := mos x hxm
  have lm := flen (l := os.take i) (fun r hr => mos r (List.mem_of_mem_take hr))
  have lt : (os.take i).length = i := by rw [List.length_take]; omega
  (repeat (first | refine st ?_ | refine σa ?_ | (refine σb ?_; simp (disch := omega) only [push_cast, ↓reduceIte, reduceCtorEq, ν1, ν2, ν3, ν4, ν5, ζ1, ζ2, ζ3, ζ4, ζ5, lsE])))
  refine appK.elems (P := Try.prog) (e := 36) (s := 4) (bt := 32) (z := [.int .u32 0, .int .i64 0, .int .i64 0, .int .i64 0]) (by kernel_rfl) (by kernel_rfl) (by kernel_rfl) rfl (by kernel_rfl) (by decide) ((n2.1.keep Fx (by simp)).keep F3 (by simp)) n3.1.sl (by rw [rgs_length, rgs_length]; rw [lt] at lm; show (_ * 4 + _ * 4) * _ ≤ _; omega) ?_
  intro w' M4 hN hF
  (repeat (first | refine st ?_ | refine σa ?_ | (refine σb ?_; simp (disch := omega) only [push_cast, ↓reduceIte, reduceCtorEq, ν1, ν2, ν3, ν4, ν5, ζ1, ζ2, ζ3, ζ4, ζ5, lsE])))
  refine ⟨rfl, os.length - (i + 1), by omega, i + 1, ?_, by omega, by omega, ?_⟩
  ·show Value.int .i64 (IntKind.i64.wrap ((i : Int) + 1)) = _
   rw [w_i64 (by omega) (by omega)]; rfl
  have F4 : Fr N1 M4 [] := (((F2.tr Fx).tr F3).trans hF).cut (fun x hx hlt => by simp at hx; have := n2.blk x hx; omega)
  refine ⟨F4, ?_⟩
  show New N1 M4 w' 4 _
  have e3 : rgs ((os.take i).flatMap fun x => minusP x e.r) ++ rgs (minusP x e.r) = rgs ((os.take (i + 1)).flatMap fun x => minusP x e.r) := by
   rw [List.take_add_one, hxi, Option.toList_some, List.flatMap_append, rgs_append, List.flatMap_cons, List.flatMap_nil, List.append_nil]
  rw [← e3]
  exact ⟨hN.1, fun a b c h h0 => Nat.le_trans (by have := F3.1; have := Fx.1; omega) (hN.2 a b c h h0)⟩
 ·rintro M' ⟨h1, h2, h3, h4, out, h5, h6, h7⟩
  have e2 : n + 1 + 1 = n + 2 := rfl
  have c5 := isSl_cl h6.1.sl.isSl
  have o5 := isSl_one h6.1.sl.isSl
  simp only [Value.oneCell'] at o5
  have fn := Fr.set M' n (.box [out])
  have k3 := h3.keep fn (by simp)
  have k2 := h2.set (.box [out])
  (repeat (first | refine st ?_ | refine σa ?_ | (refine σb ?_; simp (disch := omega) only [push_cast, ↓reduceIte, reduceCtorEq, ν1, ν2, ν3, ν4, ν5, ζ1, ζ2, ζ3, ζ4, ζ5, e2, h5.ld, h2.ld, h3.ld, h2.get, h3.get, k3.get, k3.same, h3.same, k2.ld, k3.ld, c5, o5, List.drop_nil, List.append_nil, memE, boxE, boxE, buildE, lsE])))
  ((first | refine retA.ret (by rfl) ?_ | refine retA.normal (by rfl) ?_); simp (disch := omega) only [push_cast, ↓reduceIte, reduceCtorEq, Nat.reduceAdd, Nat.reduceMul, Nat.reduceLeDiff, Nat.reduceLT, Nat.reduceSub, Int.reduceNe, Int.reduceEq, Int.reduceLE, Int.reduceLT, Int.reduceToNat])
  simp (disch := omega) only [push_cast, ↓reduceIte, reduceCtorEq, Nat.reduceAdd, Nat.reduceMul, Nat.reduceLeDiff, Nat.reduceLT, Nat.reduceSub, Int.reduceNe, Int.reduceEq, Int.reduceLE, Int.reduceLT, Int.reduceToNat, k2.ld, k3.ld, boxE]
  exact ⟨(h1.trans fn).cut (by intro x hx hlt; simp at hx; omega), out, rfl, h6.keep fn (fun b hb hx => by have := h7 b hb; simp at hx; omega)⟩
theorem d15_Kpb {g n : Prop} (k : n) (h : n → g := by first | exact AW.dr (id := 1) (by rfl) [0, 1, 2, 3, 4] (by kernel_rfl) (by kernel_rfl)) : g := h k
theorem a15_Kpb {g n : Prop} (k : n) (h : n → g := by first | exact AH.ca (dst := some 5) rfl) : g := h k
theorem d81_Kpb {g n : Prop} (k : n) (h : n → g := by first | exact AW.dr (id := 1) (by rfl) [0, 1, 2, 3, 4, 5, 6, 7, 8, 9, 10, 11, 12, 13, 14, 15, 16, 17, 18, 19, 20, 21, 22, 23, 24, 25, 27, 28, 29, 26, 30, 31, 32] (by kernel_rfl) (by kernel_rfl)) : g := h k
theorem a81_Kpb {g n : Prop} (k : n) (h : n → g := by first | exact AH.caN (dst := some 6) rfl (by kernel_rfl)) : g := h k
theorem grright_spec (p : PX) (M : Mem) (h : 0 ≤ p.1 ∧ p.1 ≤ 4294967295) : CallA Try.prog 15 [.agg ⟨[.int .u32 p.1, .int .i64 p.2]⟩] M fun r M' => Fr M M' [] ∧ r = .bool (decide (rightX p)) := by
 have P0 := Fr.push M (.box [.int .u32 p.1, .int .i64 p.2])
 have A0 := At.push M (.box [.int .u32 p.1, .int .i64 p.2])
 have pe := px_eq p (maskP p)
 (refine CallA.of_body Try.func15 rfl (by rfl) ?_; simp only [Try.ntmps15, List.length_cons, List.length_nil, List.replicate, List.cons_append, List.nil_append, Nat.reduceSub, Nat.reduceAdd])
 (repeat (first | refine st ?_ | refine σa ?_ | refine d15_Kpb ?_ | ((first | refine a15_Kpb ?_ | refine σb ?_ | refine σc ?_); simp (disch := omega) only [push_cast, ↓reduceIte, reduceCtorEq, ν1, ν2, ν3, ν4, ν5, ζ1, ζ2, ζ3, ζ4, ζ5, A0.ld, memE, boxE, buildE, lsE])))
 refine (grmask_spec p _ h).mono ?_
 rintro v M2 ⟨F2, rfl⟩
 refine ⟨F2, ?_⟩
 (repeat (first | refine st ?_ | refine σa ?_ | refine d15_Kpb ?_ | ((first | refine a15_Kpb ?_ | refine σb ?_ | refine σc ?_); simp (disch := omega) only [push_cast, ↓reduceIte, reduceCtorEq, ν1, ν2, ν3, ν4, ν5, ζ1, ζ2, ζ3, ζ4, ζ5, pe, aggB, buildE, lsE])))
 ((first | refine retA.ret (by rfl) ?_ | refine retA.normal (by rfl) ?_); simp (disch := omega) only [push_cast, ↓reduceIte, reduceCtorEq, Nat.reduceAdd, Nat.reduceMul, Nat.reduceLeDiff, Nat.reduceLT, Nat.reduceSub, Int.reduceNe, Int.reduceEq, Int.reduceLE, Int.reduceLT, Int.reduceToNat])
 exact ⟨P0.tr F2, rfl⟩
theorem rcut_spec (a n : Int) (M : Mem) (h : 0 ≤ a ∧ a ≤ 4294967295) : CallA Try.prog 48 [.int .u32 a, .int .i64 n] M fun r M' => Fr M M' [] ∧ r = .int .u32 (maskP (a, n)).1 := by
 (refine CallA.of_body Try.func48 rfl (by rfl) ?_; simp only [Try.ntmps48, List.length_cons, List.length_nil, List.replicate, List.cons_append, List.nil_append, Nat.reduceSub, Nat.reduceAdd])
 (repeat (first | refine st ?_ | refine σa ?_ | (refine σb ?_; simp (disch := omega) only [push_cast, ↓reduceIte, reduceCtorEq, ν1, ν2, ν3, ν4, ν5, ζ1, ζ2, ζ3, ζ4, ζ5, memE, boxE, buildE, lsE])))
 refine (grmask_spec (a, n) _ h).mono ?_
 rintro v M2 ⟨F2, rfl⟩
 (repeat (first | refine st ?_ | refine σa ?_ | (refine σb ?_; simp (disch := omega) only [push_cast, ↓reduceIte, reduceCtorEq, ν1, ν2, ν3, ν4, ν5, ζ1, ζ2, ζ3, ζ4, ζ5, buildE, lsE])))
 ((first | refine retA.ret (by rfl) ?_ | refine retA.normal (by rfl) ?_); simp (disch := omega) only [push_cast, ↓reduceIte, reduceCtorEq, Nat.reduceAdd, Nat.reduceMul, Nat.reduceLeDiff, Nat.reduceLT, Nat.reduceSub, Int.reduceNe, Int.reduceEq, Int.reduceLE, Int.reduceLT, Int.reduceToNat])
 exact F2
theorem cut_begins {x : PX} (h : rightX x) (a : Int) : (maskP (a, x.2)).1 = x.1 ↔ beginsP a x := by
 obtain ⟨hw, h0, h32⟩ := right_span h
 have eN : maskN x.2 = x.2.toNat := by unfold maskN; split; omega; split <;> omega
 have e : (maskP (a, x.2)).1 = a / spanN x.2 * spanN x.2 := by
  show a / 2 ^ (32 - maskN x.2) * 2 ^ (32 - maskN x.2) = _
  rw [eN]; rfl
 have hp := spanN_pos x.2
 rw [e]
 unfold beginsP
 constructor
 ·intro h1
  rw [hw] at h1
  exact Int.eq_of_mul_eq_mul_right (by omega) h1
 ·intro h1
  rw [h1]; exact hw.symm
theorem rright4_spec (r : RG) (M : Mem) (h : goodR r) : CallA Try.prog 79 [.agg ⟨rgL r⟩] M fun v M' => Fr M M' [] ∧ v = .bool (decide (rightR r)) := by
 have P0 := Fr.push M (.box (rgL r))
 have A0 := At.push M (.box (rgL r))
 unfold rgL at P0 A0 ⊢
 have fin : ∀ {M' : Mem} {b : Bool}, Fr M M' [] → (b = true ↔ rightR r) → Fr M M' [] ∧ (.bool b : Value) = .bool (decide (rightR r)) := by
  intro M' b f hb
  refine ⟨f, congrArg _ ?_⟩
  rw [Bool.eq_iff_iff, decide_eq_true_eq]; exact hb
 (refine CallA.of_body Try.func79 rfl (by rfl) ?_; simp only [Try.ntmps79, List.length_cons, List.length_nil, List.replicate, List.cons_append, List.nil_append, Nat.reduceSub, Nat.reduceAdd])
 (repeat (first | refine st ?_ | refine σa ?_ | (refine σb ?_; simp (disch := omega) only [push_cast, ↓reduceIte, reduceCtorEq, ν1, ν2, ν3, ν4, ν5, ζ1, ζ2, ζ3, ζ4, ζ5, A0.ld, memE, boxE, buildE, lsE])))
 refine (grright_spec r.base _ h).mono ?_
 rintro v M2 ⟨F2, rfl⟩
 have A2 := A0.keep F2 (by simp)
 have FF := P0.tr F2
 by_cases c1 : rightX r.base
 rotate_left
 ·rw [decide_eq_false c1]
  (repeat (first | refine st ?_ | refine σa ?_ | (refine σb ?_; simp (disch := omega) only [push_cast, ↓reduceIte, reduceCtorEq, ν1, ν2, ν3, ν4, ν5, ζ1, ζ2, ζ3, ζ4, ζ5, lsE])))
  ((first | refine retA.ret (by rfl) ?_ | refine retA.normal (by rfl) ?_); simp (disch := omega) only [push_cast, ↓reduceIte, reduceCtorEq, Nat.reduceAdd, Nat.reduceMul, Nat.reduceLeDiff, Nat.reduceLT, Nat.reduceSub, Int.reduceNe, Int.reduceEq, Int.reduceLE, Int.reduceLT, Int.reduceToNat])
  exact fin FF (by simp [rightR, c1])
 rw [decide_eq_true c1]
 by_cases c2 : r.base.2 ≤ r.ge
 rotate_left
 ·have d2 : decide (r.base.2 ≤ r.ge) = false := decide_eq_false c2
  (repeat (first | refine st ?_ | refine σa ?_ | (refine σb ?_; simp (disch := omega) only [push_cast, ↓reduceIte, reduceCtorEq, ν1, ν2, ν3, ν4, ν5, ζ1, ζ2, ζ3, ζ4, ζ5, A2.ld, d2, buildE, lsE])))
  ((first | refine retA.ret (by rfl) ?_ | refine retA.normal (by rfl) ?_); simp (disch := omega) only [push_cast, ↓reduceIte, reduceCtorEq, Nat.reduceAdd, Nat.reduceMul, Nat.reduceLeDiff, Nat.reduceLT, Nat.reduceSub, Int.reduceNe, Int.reduceEq, Int.reduceLE, Int.reduceLT, Int.reduceToNat])
  exact fin FF (by simp [rightR, c2])
 have d2 : decide (r.base.2 ≤ r.ge) = true := decide_eq_true c2
 by_cases c3 : r.ge ≤ r.le
 rotate_left
 ·have d3 : decide (r.ge ≤ r.le) = false := decide_eq_false c3
  (repeat (first | refine st ?_ | refine σa ?_ | (refine σb ?_; simp (disch := omega) only [push_cast, ↓reduceIte, reduceCtorEq, ν1, ν2, ν3, ν4, ν5, ζ1, ζ2, ζ3, ζ4, ζ5, A2.ld, d2, d3, buildE, lsE])))
  ((first | refine retA.ret (by rfl) ?_ | refine retA.normal (by rfl) ?_); simp (disch := omega) only [push_cast, ↓reduceIte, reduceCtorEq, Nat.reduceAdd, Nat.reduceMul, Nat.reduceLeDiff, Nat.reduceLT, Nat.reduceSub, Int.reduceNe, Int.reduceEq, Int.reduceLE, Int.reduceLT, Int.reduceToNat])
  exact fin FF (by simp [rightR, c3])
 have d3 : decide (r.ge ≤ r.le) = true := decide_eq_true c3
 (repeat (first | refine st ?_ | refine σa ?_ | (refine σb ?_; simp (disch := omega) only [push_cast, ↓reduceIte, reduceCtorEq, ν1, ν2, ν3, ν4, ν5, ζ1, ζ2, ζ3, ζ4, ζ5, A2.ld, d2, d3, buildE, lsE])))
 ((first | refine retA.ret (by rfl) ?_ | refine retA.normal (by rfl) ?_); simp (disch := omega) only [push_cast, ↓reduceIte, reduceCtorEq, Nat.reduceAdd, Nat.reduceMul, Nat.reduceLeDiff, Nat.reduceLT, Nat.reduceSub, Int.reduceNe, Int.reduceEq, Int.reduceLE, Int.reduceLT, Int.reduceToNat])
 exact fin FF (by simp [rightR, c1, c2, c3])
theorem rin_spec (r : RG) (p : PX) (M : Mem) (h : goodR r) (hp : 0 ≤ p.1 ∧ p.1 ≤ 4294967295) : CallA Try.prog 81 [.agg ⟨rgL r⟩, .agg ⟨[.int .u32 p.1, .int .i64 p.2]⟩] M fun v M' => Fr M M' [] ∧ v = .bool (decide (inR r p)) := by
 have P0 := Fr.push2 M (.box (rgL r)) (.box [.int .u32 p.1, .int .i64 p.2])
 have A0 := (At.push M (.box (rgL r))).keep (Fr.push _ (.box [.int .u32 p.1, .int .i64 p.2])) (by simp)
 have B0 := At.push (M ++ [.box (rgL r)]) (.box [.int .u32 p.1, .int .i64 p.2])
 rw [List.length_append, List.length_singleton] at B0
 unfold rgL at P0 A0 B0
 unfold rgL
 have fin : ∀ {M' : Mem} {b : Bool}, Fr M M' [] → (b = true ↔ inR r p) → Fr M M' [] ∧ (.bool b : Value) = .bool (decide (inR r p)) := by
  intro M' b f hb
  refine ⟨f, congrArg _ ?_⟩
  rw [Bool.eq_iff_iff, decide_eq_true_eq]; exact hb
 (refine CallA.of_body Try.func81 rfl (by rfl) ?_; simp only [Try.ntmps81, List.length_cons, List.length_nil, List.replicate, List.cons_append, List.nil_append, Nat.reduceSub, Nat.reduceAdd])
 (repeat (first | refine st ?_ | refine σa ?_ | (refine σb ?_; simp (disch := omega) only [push_cast, ↓reduceIte, reduceCtorEq, ν1, ν2, ν3, ν4, ν5, ζ1, ζ2, ζ3, ζ4, ζ5, memE, boxE, buildE, lsE])))
 simp only [List.length_append, List.length_cons, List.length_nil, Nat.zero_add]
 generalize M ++ [Blk.box [.int .u32 r.base.1, .int .i64 r.base.2, .int .i64 r.ge, .int .i64 r.le]] ++ [Blk.box [.int .u32 p.1, .int .i64 p.2]] = M0 at *
 obtain ⟨s, hs⟩ : ∃ s, s = M.length := ⟨_, rfl⟩
 rw [← hs] at A0 B0 ⊢
 (repeat (first | refine st ?_ | refine σa ?_ | refine d81_Kpb ?_ | ((first | refine a81_Kpb ?_ | refine σb ?_ | refine σc ?_); simp (disch := omega) only [push_cast, ↓reduceIte, reduceCtorEq, ν1, ν2, ν3, ν4, ν5, ζ1, ζ2, ζ3, ζ4, ζ5, A0.ld, buildE, lsE])))
 refine (rright4_spec r M0 h).mono ?_
 rintro v M1 ⟨F1, rfl⟩
 have A1 := A0.keep F1 (by simp)
 have B1 := B0.keep F1 (by simp)
 have F01 := P0.tr F1
 by_cases c1 : rightR r
 rotate_left
 ·rw [decide_eq_false c1]
  (repeat (first | refine st ?_ | refine σa ?_ | refine d81_Kpb ?_ | ((first | refine a81_Kpb ?_ | refine σb ?_ | refine σc ?_); simp (disch := omega) only [push_cast, ↓reduceIte, reduceCtorEq, ν1, ν2, ν3, ν4, ν5, ζ1, ζ2, ζ3, ζ4, ζ5, lsE])))
  ((first | refine retA.ret (by rfl) ?_ | refine retA.normal (by rfl) ?_); simp (disch := omega) only [push_cast, ↓reduceIte, reduceCtorEq, Nat.reduceAdd, Nat.reduceMul, Nat.reduceLeDiff, Nat.reduceLT, Nat.reduceSub, Int.reduceNe, Int.reduceEq, Int.reduceLE, Int.reduceLT, Int.reduceToNat])
  exact fin F01 (by simp [inR, c1])
 rw [decide_eq_true c1]
 (repeat (first | refine st ?_ | refine σa ?_ | refine d81_Kpb ?_ | ((first | refine a81_Kpb ?_ | refine σb ?_ | refine σc ?_); simp (disch := omega) only [push_cast, ↓reduceIte, reduceCtorEq, ν1, ν2, ν3, ν4, ν5, ζ1, ζ2, ζ3, ζ4, ζ5, A1.ld, B1.ld, buildE, lsE])))
 refine (grright_spec p M1 hp).mono ?_
 rintro v M2 ⟨F2, rfl⟩
 have A2 := A1.keep F2 (by simp)
 have B2 := B1.keep F2 (by simp)
 have F02 := F01.tr F2
 by_cases c2 : rightX p
 rotate_left
 ·rw [decide_eq_false c2]
  (repeat (first | refine st ?_ | refine σa ?_ | refine d81_Kpb ?_ | ((first | refine a81_Kpb ?_ | refine σb ?_ | refine σc ?_); simp (disch := omega) only [push_cast, ↓reduceIte, reduceCtorEq, ν1, ν2, ν3, ν4, ν5, ζ1, ζ2, ζ3, ζ4, ζ5, lsE])))
  ((first | refine retA.ret (by rfl) ?_ | refine retA.normal (by rfl) ?_); simp (disch := omega) only [push_cast, ↓reduceIte, reduceCtorEq, Nat.reduceAdd, Nat.reduceMul, Nat.reduceLeDiff, Nat.reduceLT, Nat.reduceSub, Int.reduceNe, Int.reduceEq, Int.reduceLE, Int.reduceLT, Int.reduceToNat])
  exact fin F02 (by simp [inR, c2])
 rw [decide_eq_true c2]
 by_cases c3 : p.2 ≥ r.ge
 rotate_left
 ·have d3 : decide (p.2 ≥ r.ge) = false := decide_eq_false c3
  (repeat (first | refine st ?_ | refine σa ?_ | refine d81_Kpb ?_ | ((first | refine a81_Kpb ?_ | refine σb ?_ | refine σc ?_); simp (disch := omega) only [push_cast, ↓reduceIte, reduceCtorEq, ν1, ν2, ν3, ν4, ν5, ζ1, ζ2, ζ3, ζ4, ζ5, A2.ld, B2.ld, d3, buildE, lsE])))
  ((first | refine retA.ret (by rfl) ?_ | refine retA.normal (by rfl) ?_); simp (disch := omega) only [push_cast, ↓reduceIte, reduceCtorEq, Nat.reduceAdd, Nat.reduceMul, Nat.reduceLeDiff, Nat.reduceLT, Nat.reduceSub, Int.reduceNe, Int.reduceEq, Int.reduceLE, Int.reduceLT, Int.reduceToNat])
  exact fin F02 ⟨fun h => (by cases h), fun h => absurd h.2.2.1 c3⟩
 have d3 : decide (p.2 ≥ r.ge) = true := decide_eq_true c3
 by_cases c4 : p.2 ≤ r.le
 rotate_left
 ·have d4 : decide (p.2 ≤ r.le) = false := decide_eq_false c4
  (repeat (first | refine st ?_ | refine σa ?_ | refine d81_Kpb ?_ | ((first | refine a81_Kpb ?_ | refine σb ?_ | refine σc ?_); simp (disch := omega) only [push_cast, ↓reduceIte, reduceCtorEq, ν1, ν2, ν3, ν4, ν5, ζ1, ζ2, ζ3, ζ4, ζ5, A2.ld, B2.ld, d3, d4, buildE, lsE])))
  ((first | refine retA.ret (by rfl) ?_ | refine retA.normal (by rfl) ?_); simp (disch := omega) only [push_cast, ↓reduceIte, reduceCtorEq, Nat.reduceAdd, Nat.reduceMul, Nat.reduceLeDiff, Nat.reduceLT, Nat.reduceSub, Int.reduceNe, Int.reduceEq, Int.reduceLE, Int.reduceLT, Int.reduceToNat])
  exact fin F02 ⟨fun h => (by cases h), fun h => absurd h.2.2.2.1 c4⟩
 have d4 : decide (p.2 ≤ r.le) = true := decide_eq_true c4
 have cb := cut_begins c1.1 p.1
 (repeat (first | refine st ?_ | refine σa ?_ | refine d81_Kpb ?_ | ((first | refine a81_Kpb ?_ | refine σb ?_ | refine σc ?_); simp (disch := omega) only [push_cast, ↓reduceIte, reduceCtorEq, ν1, ν2, ν3, ν4, ν5, ζ1, ζ2, ζ3, ζ4, ζ5, A2.ld, B2.ld, d3, d4, buildE, lsE])))
 refine (rcut_spec p.1 r.base.2 M2 hp).mono ?_
 rintro v M3 ⟨F3, rfl⟩
 refine ⟨F3, ?_⟩
 (repeat (first | refine st ?_ | refine σa ?_ | refine d81_Kpb ?_ | ((first | refine a81_Kpb ?_ | refine σb ?_ | refine σc ?_); simp (disch := omega) only [push_cast, ↓reduceIte, reduceCtorEq, ν1, ν2, ν3, ν4, ν5, ζ1, ζ2, ζ3, ζ4, ζ5, lsE])))
 ((first | refine retA.ret (by rfl) ?_ | refine retA.normal (by rfl) ?_); simp (disch := omega) only [push_cast, ↓reduceIte, reduceCtorEq, Nat.reduceAdd, Nat.reduceMul, Nat.reduceLeDiff, Nat.reduceLT, Nat.reduceSub, Int.reduceNe, Int.reduceEq, Int.reduceLE, Int.reduceLT, Int.reduceToNat])
 refine fin (F02.tr F3) ?_
 rw [decide_eq_true_eq, cb]
 exact ⟨fun h => ⟨c1, c2, c3, c4, h⟩, fun h => h.2.2.2.2⟩
end Go.Proofs.Ytbdejnnbpdgjlaa.Ax
