/- Contracts of functions over the abstract machine. No conditions: lemmas alone. -/
import Derived.Test.YtbdejnnbpdgjlaaPeerXLibD
import Derived.Test.YtbdejnnbpdgjlaaPeerXP0
import Derived.Test.YtbdejnnbpdgjlaaPeerXP16
import Derived.Test.YtbdejnnbpdgjlaaPeerXP10
import Derived.Test.YtbdejnnbpdgjlaaPeerXP11
import Derived.Test.YtbdejnnbpdgjlaaPeerXP12
namespace Go.Proofs.Ytbdejnnbpdgjlaa.Ax
open Go Go.RowKit
open Nat renaming reduceAdd → ν1, reduceMul → ν2, reduceLeDiff → ν3, reduceLT → ν4, reduceSub → ν5
open Int renaming reduceNe → ζ1, reduceEq → ζ2, reduceLE → ζ3, reduceLT → ζ4, reduceToNat → ζ5
set_option linter.unusedVariables false
set_option linter.unusedSimpArgs false
set_option maxRecDepth 100000
set_option maxHeartbeats 20000000
attribute [local irreducible] thenA blockA scopeA retA AL AW AD ADL AH clrK CallA apure aload bload appK ptrK fnK ares szOk planOk okOps
structure MVin (M : Mem) (m : MV) (g a c nw d : Value) : Prop where
 gone : Sl M g 2 (pxs m.gone)
 path : Sl M a 1 (ints .u32 m.attrs.path)
 comms : Sl M c 1 (ints .u32 m.attrs.comms)
 new : Sl M nw 2 (pxs m.new)
 data : Sl M d 1 (ints .u8 m.data)
theorem MVin.keep {M M' : Mem} {m : MV} {g a c nw d : Value} {X : List Nat} (h : MVin M m g a c nw d) (f : Fr M M' X) (hx : ∀ b, b < M.length → b ∉ X) : MVin M' m g a c nw d :=
 ⟨h.gone.keep f (fun b hb => hx b (h.gone.blks b hb)), h.path.keep f (fun b hb => hx b (h.path.blks b hb)), h.comms.keep f (fun b hb => hx b (h.comms.blks b hb)), h.new.keep f (fun b hb => hx b (h.new.blks b hb)), h.data.keep f (fun b hb => hx b (h.data.blks b hb))⟩
def sizeM (m : MV) : Prop := m.gone.length ≤ 20000 ∧ m.new.length ≤ 20000 ∧ m.data.length ≤ 20000 ∧ m.attrs.path.length ≤ 100000 ∧ m.attrs.comms.length ≤ 100000
theorem twoB_wrap (n : Int) : twoB (n % 65536) = twoB n := by
 unfold twoB
 have e1 : n % 65536 / 256 % 256 = n / 256 % 256 := by omega
 have e2 : n % 65536 % 256 = n % 256 := by omega
 rw [e1, e2]
theorem wupd_spec (p : Nat) (v : Value) (bs : List Int) (m : MV) (g a c nw d : Value) (M : Mem) (h : WrA M p v bs) (hi : MVin M m g a c nw d) (hk : m.kind = 2) (hr : rightM m) (hg : goodM m) (hz : sizeM m) (hl : bs.length ≤ 1000) :
  CallA Try.prog 66 [.pointer (some ⟨p, 0, none⟩), .agg ⟨mvL m g a c nw d⟩] M fun r M' => r = .tuple ⟨[]⟩ ∧ WrS M p v (bs ++ bodyB m) M' := by
 unfold rightM at hr
 rw [if_neg (by omega), if_pos hk] at hr
 obtain ⟨gb, hgb⟩ := nlPut_some hr.1
 obtain ⟨nb, hnb⟩ := nlPut_some hr.2.1
 have lgb := (nlPut_len hgb).2
 have lnb := (nlPut_len hnb).2
 obtain ⟨z1, z2, z3, z4, z5⟩ := hz
 obtain ⟨u1, u2, u3, u4, u5, u6⟩ := hg
 have hpM := h.at'.lt
 have hvM := h.own.sl.blks
 have hnn := hi.new.lnX
 have hsn := hi.new.isSl
 (refine CallA.of_body Try.func66 rfl (by rfl) ?_; simp only [Try.ntmps66, List.length_cons, List.length_nil, List.replicate, List.cons_append, List.nil_append, Nat.reduceSub, Nat.reduceAdd])
 (repeat (first | refine st ?_ | refine σa ?_ | (refine σb ?_; simp (disch := omega) only [push_cast, ↓reduceIte, reduceCtorEq, ν1, ν2, ν3, ν4, ν5, ζ1, ζ2, ζ3, ζ4, ζ5, mvL_ld, buildE, memE, boxE])))
 have P0 := Fr.push M (.box (mvL m g a c nw d))
 have B0 := At.push M (.box (mvL m g a c nw d))
 generalize hM0 : M ++ [Blk.box (mvL m g a c nw d)] = M0 at *
 have hlen0 : M0.length = M.length + 1 := by rw [← hM0]; simp
 refine (nlput_spec g m.gone M0 (hi.gone.keep P0 (by simp)) u3 (by omega)).mono ?_
 rintro r M1 ⟨f1, hr1⟩
 obtain ⟨w1, rfl, n1⟩ : ∃ w, r = .tuple ⟨[w, .int .i64 0]⟩ ∧ New M0 M1 w 1 (ints .u8 gb) := by
  rcases hr1 with ⟨bs', w, e1, e2, e3⟩ | ⟨e, _⟩
  ·rw [hgb] at e1; cases e1; exact ⟨w, e2, e3⟩
  ·rw [hgb] at e; cases e
 have B1 := B0.keep f1 (by simp)
 (repeat (first | refine st ?_ | refine σa ?_ | (refine σb ?_; simp (disch := omega) only [push_cast, ↓reduceIte, reduceCtorEq, ν1, ν2, ν3, ν4, ν5, ζ1, ζ2, ζ3, ζ4, ζ5, B1.ld, mvL_ld, buildE])))
 refine (nlput_spec nw m.new M1 ((hi.new.keep P0 (by simp)).keep f1 (by simp)) u4 (by omega)).mono ?_
 rintro r M2 ⟨f2, hr2⟩
 obtain ⟨w2, rfl, n2⟩ : ∃ w, r = .tuple ⟨[w, .int .i64 0]⟩ ∧ New M1 M2 w 1 (ints .u8 nb) := by
  rcases hr2 with ⟨bs', w, e1, e2, e3⟩ | ⟨e, _⟩
  ·rw [hnb] at e1; cases e1; exact ⟨w, e2, e3⟩
  ·rw [hnb] at e; cases e
 have B2 := B1.keep f2 (by simp)
 have n1' := n1.keep f2 (by simp)
 have F2 := (P0.tr f1).tr f2
 have hsn2 := hi.new.isSl
 (repeat (first | refine st ?_ | refine σa ?_ | (refine σb ?_; simp (disch := omega) only [push_cast, ↓reduceIte, reduceCtorEq, ν1, ν2, ν3, ν4, ν5, ζ1, ζ2, ζ3, ζ4, ζ5, B2.ld, hsn, hnn, mvL_ld, buildE])))
 refine AW.joinF [8, 25, 26, 27, 28, 29, 30] (fun q M' => Fr M2 M' [] ∧ New M2 M' (q 8) 1 (ints .u8 (attrsB m))) ?_ ?_
 ·by_cases hne : m.new = []
  ·have d : decide ((m.new.length : Int) > 0) = false := decide_eq_false (by rw [hne]; simp)
   have ea : attrsB m = [] := by unfold attrsB; rw [if_pos hne]
   (repeat (first | refine st ?_ | refine σa ?_ | (refine σb ?_; simp (disch := omega) only [push_cast, ↓reduceIte, reduceCtorEq, ν1, ν2, ν3, ν4, ν5, ζ1, ζ2, ζ3, ζ4, ζ5, d])))
   exact ⟨rfl, Fr.refl _, by rw [ea]; exact New.nil _ (by omega)⟩
  ·have hpos := List.length_pos_iff.2 hne
   have d : decide ((m.new.length : Int) > 0) = true := decide_eq_true (by omega)
   have ea : attrsB m = putP m.attrs := by unfold attrsB; rw [if_neg hne]
   have hrp : rightP m.attrs := by rcases hr.2.2 with h | h; exact absurd h hne; exact h
   (repeat (first | refine st ?_ | refine σa ?_ | (refine σb ?_; simp (disch := omega) only [push_cast, ↓reduceIte, reduceCtorEq, ν1, ν2, ν3, ν4, ν5, ζ1, ζ2, ζ3, ζ4, ζ5, d, B2.ld, mvL_ld, buildE])))
   refine (put_spec m.attrs a c M2 (hi.path.keep F2 (by simp)) (hi.comms.keep F2 (by simp)) u5 (by omega) (by omega)).mono ?_
   rintro r M3 ⟨f3, hr3⟩
   obtain ⟨w3, rfl, n3⟩ : ∃ w, r = .tuple ⟨[w, .int .i64 0]⟩ ∧ New M2 M3 w 1 (ints .u8 (putP m.attrs)) := by
    rcases hr3 with ⟨_, w, e2, e3⟩ | ⟨e, _⟩
    ·exact ⟨w, e2, e3⟩
    ·exact absurd hrp e
   (repeat (first | refine st ?_ | refine σa ?_ | (refine σb ?_; simp (disch := omega) only [push_cast, ↓reduceIte, reduceCtorEq, ν1, ν2, ν3, ν4, ν5, ζ1, ζ2, ζ3, ζ4, ζ5])))
   exact ⟨rfl, f3, by rw [ea]; exact n3⟩
 ·rintro q M3 ⟨f3, n3⟩
  obtain ⟨w3, hw3⟩ : ∃ w3, q 8 = w3 := ⟨_, rfl⟩
  rw [hw3] at n3
  simp (disch := omega) only [push_cast, ↓reduceIte, reduceCtorEq, Nat.reduceAdd, Nat.reduceMul, Nat.reduceLeDiff, Nat.reduceLT, Nat.reduceSub, Int.reduceNe, Int.reduceEq, Int.reduceLE, Int.reduceLT, Int.reduceToNat, hw3]
  have F3 := F2.tr f3
  have n1a := n1'.keep f3 (by simp)
  have n2a := n2.keep f3 (by simp)
  have s1 := n1a.sl.isSl
  have l1 := n1a.sl.lnI
  have s3 := n3.sl.isSl
  have l3 := n3.sl.lnI
  (repeat (first | refine st ?_ | refine σa ?_ | (refine σb ?_; simp (disch := omega) only [push_cast, ↓reduceIte, reduceCtorEq, ν1, ν2, ν3, ν4, ν5, ζ1, ζ2, ζ3, ζ4, ζ5, s1, l1])))
  have A3 := h.keep F3 (by simp)
  have la : (attrsB m).length ≤ 3000 := by
   unfold attrsB
   split
   ·simp
   ·rename_i hne
    have hrp : rightP m.attrs := by rcases hr.2.2 with h | h; exact absurd h hne; exact h
    exact (putP_bytes hrp u5).2
  have sep : ∀ (w : Value), (∀ b ∈ blkOf w, M.length ≤ b) → ∀ b ∈ blkOf w, b ∉ p :: blkOf v := fun w hw b hb hc => by
   have h1 := hw b hb
   rcases List.mem_cons.1 hc with h2 | h2
   ·omega
   ·have := hvM b h2; omega
  have lM2 : M0.length ≤ M1.length ∧ M1.length ≤ M2.length := ⟨f1.1, f2.1⟩
  have k1 := sep w1 (fun b hb => by have := n1.blk b hb; omega)
  have k2 := sep w2 (fun b hb => by have := n2.blk b hb; omega)
  have k3 := sep w3 (fun b hb => by have := n3.blk b hb; omega)
  rw [wm_u16]
  refine (wtwo_spec p v bs ((gb.length : Int) % 65536) M3 A3 (by omega) (by omega)).mono ?_
  rintro r M4 ⟨rfl, F4, v4, A4, N4⟩
  rw [twoB_wrap] at A4 N4
  (repeat (first | refine st ?_ | refine σa ?_ | (refine σb ?_; simp (disch := omega) only [push_cast, ↓reduceIte, reduceCtorEq, ν1, ν2, ν3, ν4, ν5, ζ1, ζ2, ζ3, ζ4, ζ5])))
  refine (woct_spec p v4 _ w1 gb M4 A4 (n1a.sl.keep F4 k1) (by simp [twoB]; omega)).mono ?_
  rintro r M5 ⟨rfl, W5⟩
  obtain ⟨F5, v5, A5, N5⟩ := WrS.tr F4 N4 W5
  have l3' := l3
  have sa := (n3.sl.keep F5 k3).isSl
  (repeat (first | refine st ?_ | refine σa ?_ | (refine σb ?_; simp (disch := omega) only [push_cast, ↓reduceIte, reduceCtorEq, ν1, ν2, ν3, ν4, ν5, ζ1, ζ2, ζ3, ζ4, ζ5, s3, l3])))
  rw [wm_u16]
  refine (wtwo_spec p v5 _ (((attrsB m).length : Int) % 65536) M5 A5 (by omega) (by simp [twoB]; omega)).mono ?_
  rintro r M6 ⟨rfl, W6⟩
  rw [twoB_wrap] at W6
  obtain ⟨F6, v6, A6, N6⟩ := WrS.tr F5 N5 W6
  (repeat (first | refine st ?_ | refine σa ?_ | (refine σb ?_; simp (disch := omega) only [push_cast, ↓reduceIte, reduceCtorEq, ν1, ν2, ν3, ν4, ν5, ζ1, ζ2, ζ3, ζ4, ζ5])))
  refine (woct_spec p v6 _ w3 (attrsB m) M6 A6 (n3.sl.keep F6 k3) (by simp [twoB]; omega)).mono ?_
  rintro r M7 ⟨rfl, W7⟩
  obtain ⟨F7, v7, A7, N7⟩ := WrS.tr F6 N6 W7
  (repeat (first | refine st ?_ | refine σa ?_ | (refine σb ?_; simp (disch := omega) only [push_cast, ↓reduceIte, reduceCtorEq, ν1, ν2, ν3, ν4, ν5, ζ1, ζ2, ζ3, ζ4, ζ5])))
  refine (woct_spec p v7 _ w2 nb M7 A7 (n2a.sl.keep F7 k2) (by simp [twoB]; omega)).mono ?_
  rintro r M8 ⟨rfl, W8⟩
  have W := (WrS.tr F7 N7 W8).pre F3
  (repeat (first | refine st ?_ | refine σa ?_ | (refine σb ?_; simp (disch := omega) only [push_cast, ↓reduceIte, reduceCtorEq, ν1, ν2, ν3, ν4, ν5, ζ1, ζ2, ζ3, ζ4, ζ5])))
  ((first | refine retA.ret (by rfl) ?_ | refine retA.normal (by rfl) ?_); simp (disch := omega) only [push_cast, ↓reduceIte, reduceCtorEq, Nat.reduceAdd, Nat.reduceMul, Nat.reduceLeDiff, Nat.reduceLT, Nat.reduceSub, Int.reduceNe, Int.reduceEq, Int.reduceLE, Int.reduceLT, Int.reduceToNat])
  have e : bodyB m = twoB gb.length ++ gb ++ twoB (attrsB m).length ++ attrsB m ++ nb := by
   unfold bodyB; rw [if_neg (by omega), if_pos hk, hgb, hnb]; rfl
  rw [e]
  simp only [List.append_assoc] at W ⊢
  exact W
theorem d22_Ar5 {g n : Prop} (k : n) (h : n → g := by first | exact AW.dr (id := 6) (by rfl) [0, 1, 2, 3, 4, 5, 6, 7, 8] (by kernel_rfl) (by kernel_rfl)) : g := h k
theorem bytes_spec (v w : Value) (xs ys : List Int) (M : Mem) (hv : Sl M v 1 (ints .u8 xs)) (hw : Sl M w 1 (ints .u8 ys)) (hl : xs.length ≤ 1000000000) : CallA Try.prog 22 [v, w] M fun r M' => M' = M ∧ r = .bool (decide (xs = ys)) := by
 have hs := hv.isSl
 have hn := hv.lnI
 have hs2 := hw.isSl
 have hn2 := hw.lnI
 (refine CallA.of_body Try.func22 rfl (by rfl) ?_; simp only [Try.ntmps22, List.length_cons, List.length_nil, List.replicate, List.cons_append, List.nil_append, Nat.reduceSub, Nat.reduceAdd])
 by_cases hlen : xs.length = ys.length
 ·have d0 : decide ((xs.length : Int) = ys.length) = true := decide_eq_true (by omega)
  (repeat (first | refine st ?_ | refine σa ?_ | refine d22_Ar5 ?_ | ((first | refine σb ?_ | refine σc ?_); simp (disch := omega) only [push_cast, ↓reduceIte, reduceCtorEq, ν1, ν2, ν3, ν4, ν5, ζ1, ζ2, ζ3, ζ4, ζ5, hs, hn, hs2, hn2, d0, Bool.not_true])))
  refine AW.loopF [4, 5, 13, 14, 15, 16, 17, 18, 19, 20, 21, 22, 23, 24, 25] (fun m g M' => ∃ i : Nat, g 13 = .int .i64 i ∧ i + m = xs.length ∧ M' = M ∧ ∀ q, q < i → xs.getD q 0 = ys.getD q 0) xs.length ?_ ?_
  ·exact ⟨0, rfl, by omega, rfl, fun q h => by omega⟩
  rintro m g M1 ⟨i, h13, hi, rfl, he⟩
  simp (disch := omega) only [push_cast, ↓reduceIte, reduceCtorEq, Nat.reduceAdd, Nat.reduceMul, Nat.reduceLeDiff, Nat.reduceLT, Nat.reduceSub, Int.reduceNe, Int.reduceEq, Int.reduceLE, Int.reduceLT, Int.reduceToNat, h13]
  (repeat (first | refine st ?_ | refine σa ?_ | refine d22_Ar5 ?_ | ((first | refine σb ?_ | refine σc ?_); simp (disch := omega) only [push_cast, ↓reduceIte, reduceCtorEq, ν1, ν2, ν3, ν4, ν5, ζ1, ζ2, ζ3, ζ4, ζ5])))
  ((first | refine AL.gu rfl (fun hlt => ?_) (fun hlt => ?_) | refine AW.condS rfl rfl (fun hlt => ?_) (fun hlt => ?_)) <;> (try (have hlt' := hlt; simp only [Bool.not_eq_true', Bool.not_eq_false', Bool.not_true, Bool.not_false, decide_eq_true_eq, decide_eq_false_iff_not, Classical.not_not, Int.not_lt, Int.not_le, gt_iff_lt, ge_iff_le, beq_iff_eq] at hlt')))
  ·have l1 := hv.ldN (P := Try.prog) (ty := 5) (i := i) (by kernel_rfl) (by omega)
   have l2 := hw.ldN (P := Try.prog) (ty := 5) (i := i) (by kernel_rfl) (by omega)
   (repeat (first | refine st ?_ | refine σa ?_ | refine d22_Ar5 ?_ | ((first | refine σb ?_ | refine σc ?_); simp (disch := omega) only [push_cast, ↓reduceIte, reduceCtorEq, ν1, ν2, ν3, ν4, ν5, ζ1, ζ2, ζ3, ζ4, ζ5, hs, hn, hs2, hn2, l1, l2, Int.toNat_natCast])))
   ((first | refine AL.gu rfl (fun hne => ?_) (fun hne => ?_) | refine AW.condS rfl rfl (fun hne => ?_) (fun hne => ?_)) <;> (try (have hne' := hne; simp only [Bool.not_eq_true', Bool.not_eq_false', Bool.not_true, Bool.not_false, decide_eq_true_eq, decide_eq_false_iff_not, Classical.not_not, Int.not_lt, Int.not_le, gt_iff_lt, ge_iff_le, beq_iff_eq] at hne')))
   ·(repeat (first | refine st ?_ | refine σa ?_ | refine d22_Ar5 ?_ | ((first | refine σb ?_ | refine σc ?_); simp (disch := omega) only [push_cast, ↓reduceIte, reduceCtorEq, ν1, ν2, ν3, ν4, ν5, ζ1, ζ2, ζ3, ζ4, ζ5])))
    ((first | refine retA.ret (by rfl) ?_ | refine retA.normal (by rfl) ?_); simp (disch := omega) only [push_cast, ↓reduceIte, reduceCtorEq, Nat.reduceAdd, Nat.reduceMul, Nat.reduceLeDiff, Nat.reduceLT, Nat.reduceSub, Int.reduceNe, Int.reduceEq, Int.reduceLE, Int.reduceLT, Int.reduceToNat])
    have hx : xs ≠ ys := fun e => hne' (by rw [e])
    simp [hx]
   ·(repeat (first | refine st ?_ | refine σa ?_ | refine d22_Ar5 ?_ | ((first | refine σb ?_ | refine σc ?_); simp (disch := omega) only [push_cast, ↓reduceIte, reduceCtorEq, ν1, ν2, ν3, ν4, ν5, ζ1, ζ2, ζ3, ζ4, ζ5, w_i64])))
    refine ⟨rfl, m - 1, by omega, i + 1, rfl, by omega, rfl, fun q hq => ?_⟩
    by_cases e : q = i
    ·rw [e]; exact hne'
    ·exact he q (by omega)
  ·(repeat (first | refine st ?_ | refine σa ?_ | refine d22_Ar5 ?_ | ((first | refine σb ?_ | refine σc ?_); simp (disch := omega) only [push_cast, ↓reduceIte, reduceCtorEq, ν1, ν2, ν3, ν4, ν5, ζ1, ζ2, ζ3, ζ4, ζ5])))
   ((first | refine retA.ret (by rfl) ?_ | refine retA.normal (by rfl) ?_); simp (disch := omega) only [push_cast, ↓reduceIte, reduceCtorEq, Nat.reduceAdd, Nat.reduceMul, Nat.reduceLeDiff, Nat.reduceLT, Nat.reduceSub, Int.reduceNe, Int.reduceEq, Int.reduceLE, Int.reduceLT, Int.reduceToNat])
   have hx : xs = ys := by
    apply List.ext_getElem hlen
    intro q h1 h2
    have := he q (by omega)
    rwa [getD_lt h1, getD_lt h2] at this
   simp [hx]
 ·have d0 : decide ((xs.length : Int) = ys.length) = false := decide_eq_false (by omega)
  (repeat (first | refine st ?_ | refine σa ?_ | refine d22_Ar5 ?_ | ((first | refine σb ?_ | refine σc ?_); simp (disch := omega) only [push_cast, ↓reduceIte, reduceCtorEq, ν1, ν2, ν3, ν4, ν5, ζ1, ζ2, ζ3, ζ4, ζ5, hs, hn, hs2, hn2, d0, Bool.not_false])))
  ((first | refine retA.ret (by rfl) ?_ | refine retA.normal (by rfl) ?_); simp (disch := omega) only [push_cast, ↓reduceIte, reduceCtorEq, Nat.reduceAdd, Nat.reduceMul, Nat.reduceLeDiff, Nat.reduceLT, Nat.reduceSub, Int.reduceNe, Int.reduceEq, Int.reduceLE, Int.reduceLT, Int.reduceToNat])
  have hx : xs ≠ ys := fun e => hlen (by rw [e])
  simp [hx]
theorem take_len {a : AV} {k : Int} {v : List Int} (h1 : a.path.length ≤ 255 ∧ a.comms.length ≤ 255) : (takeP a k v).1.path.length ≤ 255 ∧ (takeP a k v).1.comms.length ≤ 255 := by
 unfold takeP
 split
 ·exact h1
 split
 ·split <;> exact h1
 split
 ·cases hp : pathP v with
  | none => exact h1
  | some l =>
   unfold pathP at hp
   obtain ⟨m, hm1, hm2⟩ := Option.bind_eq_some_iff.1 hp
   split at hm2
   ·cases hm2
    rename_i hc
    exact ⟨hc.1, h1.2⟩
   ·cases hm2
 split
 ·split <;> exact h1
 split
 ·exact h1
 split
 ·exact h1
 split
 ·split
  ·exact h1
  ·exact ⟨h1.1, by simp only; omega⟩
 exact h1
theorem readP_len {need : Bool} : ∀ {f : Nat} {xs : List Int} {met : Int → Bool} {a : AV}, a.path.length ≤ 255 ∧ a.comms.length ≤ 255 → (readP need f xs met a).1.path.length ≤ 255 ∧ (readP need f xs met a).1.comms.length ≤ 255
 | 0, _, _, _, _ => ⟨Nat.zero_le _, Nat.zero_le _⟩
 | f + 1, xs, met, a, h => by
  by_cases hx : xs = []
  ·subst hx
   rw [readP_nil]
   split
   ·exact ⟨Nat.zero_le _, Nat.zero_le _⟩
   ·exact h
  ·rw [readP_step _ _ _ _ _ hx]
   split
   ·exact ⟨Nat.zero_le _, Nat.zero_le _⟩
   ·split
    ·refine readP_len ?_
     unfold stepA
     split
     ·exact h
     ·exact take_len h
    ·exact ⟨Nat.zero_le _, Nat.zero_le _⟩
theorem rd_len {need : Bool} {xs : List Int} (hb : ∀ x ∈ xs, 0 ≤ x ∧ x ≤ 255) : (rdP need xs).1.path.length ≤ 255 ∧ (rdP need xs).1.comms.length ≤ 255 := readP_len ⟨Nat.zero_le _, Nat.zero_le _⟩
theorem Sl.lit (M : Mem) (n : Nat) (xs : List Int) (h : n = xs.length) (hn : n < capLow) : Sl (M ++ [.row true 1 (ints .u8 xs)]) (.slice (some ⟨M.length, 0, none⟩) n n) 1 (ints .u8 xs) := (New.row M (by omega) (by rw [ints_length]; omega) (ints_one _ _) hn).sl
theorem readKn {v : Value} {xs : List Int} {need : Bool} {M : Mem} {A : AV} {e : Int} {K : Value → Mem → Prop} (hv : Sl M v 1 (ints .u8 xs)) (hx : xs.length ≤ 100000) (hb : ∀ x ∈ xs, 0 ≤ x ∧ x ≤ 255) (h : rdP need xs = (A, e))
  (hK : ∀ M' p c, Fr M M' [] → Sl M' p 1 (ints .u32 A.path) → Sl M' c 1 (ints .u32 A.comms) → Value.oneCell' p = true → Value.oneCell' c = true → (∀ b ∈ blkOf p, M.length ≤ b) → (∀ b ∈ blkOf c, M.length ≤ b) → K (.tuple ⟨[.agg ⟨avL A p c⟩, .int .i64 e]⟩) M') : CallA Try.prog 89 [v, .bool need] M K := by
 refine (read_spec v xs need M hv hx hb).mono ?_
 rintro r M' ⟨hF, w, rfl, hA⟩
 have h' : readP need (xs.length + 1) xs (fun _ => false) AV.zero = (A, e) := h
 rw [h'] at hA ⊢
 obtain ⟨p, c, rfl, hp, hc, hpb, hcb⟩ := hA
 exact hK M' p c hF hp hc (isSl_one hp.isSl) (isSl_one hc.isSl) hpb hcb
end Go.Proofs.Ytbdejnnbpdgjlaa.Ax
namespace Go.Proofs.Ytbdejnnbpdgjlaa.Ax
open Go Go.RowKit
set_option linter.unusedVariables false
set_option linter.unusedSimpArgs false
set_option maxRecDepth 100000
set_option maxHeartbeats 20000000
theorem nlRead_len : ∀ (f : Nat) (xs : List Int), (nlRead f xs).1.length ≤ xs.length
 | 0, xs => by simp [nlRead]
 | f + 1, xs => by
  unfold nlRead
  split
  ·simp
  ·rename_i h
   have hp := List.length_pos_iff.2 h
   split
   ·simp
   ·split
    ·simp
    ·have ih := nlRead_len f (xs.drop (1 + nbytes (xs.getD 0 0)))
     rw [List.length_drop] at ih
     generalize nlRead f _ = r at *
     obtain ⟨r1, r2⟩ := r
     have : 1 ≤ xs.length := hp
     simp only at ih ⊢
     split <;> simp <;> omega
theorem nlR_len (xs : List Int) : (nlR xs).1.length ≤ xs.length := nlRead_len _ xs
theorem readM_size {b : List Int} (hb : bytesL b) (hl : b.length ≤ 10000000) : sizeM (readM b).1 := by
 have z : sizeM MV.zero := by simp [sizeM, MV.zero, AV.zero]
 unfold readM
 split
 ·exact z
 split
 ·exact z
 split
 ·exact z
 split
 ·exact z
 split
 ·rename_i c1 c2 c3 c4 c5
  rcases headF_cases b with h | h | ⟨_, h1, h2, h3, h4, _, _⟩
  ·exact absurd (by rw [h]; simp) c3
  ·exact absurd (by rw [h]; simp) c3
  have hbb : bytesL ((b.drop 19).take ((pairAt b 16).toNat - 19)) := (hb.drop 19).take _
  have hln : ((b.drop 19).take ((pairAt b 16).toNat - 19)).length ≤ 4077 := by rw [List.length_take]; omega
  generalize (b.drop 19).take ((pairAt b 16).toNat - 19) = B at *
  show sizeM (bodyP (b.getD 18 0) B).1
  unfold bodyP
  split
  ·unfold openP
   split
   ·exact z
   split
   ·exact z
   split
   ·exact z
   ·split
    ·exact z
    split
    ·exact z
    split
    ·exact z
    split
    ·exact z
    ·simp [sizeM, MV.zero, AV.zero]
  split
  ·unfold updateP
   split
   ·exact z
   split
   ·exact z
   split
   ·exact z
   ·have a1 := nlR_len ((B.drop 2).take (updG B))
    have a2 := nlR_len (B.drop (4 + updG B + updA B))
    have a3 := rd_len (need := decide ((nlR (B.drop (4 + updG B + updA B))).1 ≠ [])) (xs := (B.drop (4 + updG B)).take (updA B)) ((hbb.drop _).take _)
    have b1 : ((B.drop 2).take (updG B)).length ≤ 4077 := by rw [List.length_take, List.length_drop]; omega
    have b2 : (B.drop (4 + updG B + updA B)).length ≤ 4077 := by rw [List.length_drop]; omega
    unfold sizeM
    refine ⟨?_, ?_, by simp [MV.zero], ?_, ?_⟩
    ·show (nlR ((B.drop 2).take (updG B))).1.length ≤ 20000
     omega
    ·show (nlR (B.drop (4 + updG B + updA B))).1.length ≤ 20000
     omega
    ·show (rdP _ _).1.path.length ≤ 100000
     omega
    ·show (rdP _ _).1.comms.length ≤ 100000
     omega
  split
  ·unfold sizeM
   refine ⟨by simp [MV.zero], by simp [MV.zero], ?_, by simp [MV.zero, AV.zero], by simp [MV.zero, AV.zero]⟩
   show (B.drop 2).length ≤ 20000
   rw [List.length_drop]; omega
  ·simp [sizeM, MV.zero, AV.zero]
 ·exact z
theorem putM_bytes {m : MV} (hg : goodM m) : (putM m).1.length ≤ 4096 := by
 unfold putM
 split
 ·simp
 split
 ·simp
 split
 ·simp
 ·rename_i h1 h2 h3
  simp [twoB]
  omega
theorem twoB_byte (n : Int) : ∀ x ∈ twoB n, 0 ≤ x ∧ x ≤ 255 := by
 intro x hx
 simp [twoB] at hx
 omega
theorem addrBytes_byte {x : Int} (h : u32 x) : ∀ y ∈ addrBytes x, 0 ≤ y ∧ y ≤ 255 := by
 intro y hy
 unfold u32 at h
 simp [addrBytes] at hy
 omega
theorem nlPut_byte : ∀ {l : List PX} {bs : List Int}, nlPut l = some bs → (∀ p ∈ l, goodX p) → ∀ x ∈ bs, 0 ≤ x ∧ x ≤ 255
 | [], bs, h, _ => by
  have : bs = [] := by simpa [nlPut] using h.symm
  subst this; simp
 | p :: l, bs, h, hg => by
  unfold nlPut at h
  split at h
  ·rename_i hr
   obtain ⟨r, hr', rfl⟩ := Option.map_eq_some_iff.1 h
   have ih := nlPut_byte hr' (fun q hq => hg q (List.mem_cons_of_mem _ hq))
   intro x hx
   rcases List.mem_append.1 hx with hx | hx
   ·unfold putX at hx
    rcases List.mem_cons.1 hx with rfl | hx
    ·have := rightX_len hr; omega
    ·exact addrBytes_byte (hg p (by simp)) x (List.mem_of_mem_take hx)
   ·exact ih x hx
  ·cases h
theorem putM_byteL {m : MV} {bs : List Int} (hg : goodM m) (h : putM m = (bs, 0)) : ∀ x ∈ bs, 0 ≤ x ∧ x ≤ 255 := by
 obtain ⟨hk, hr, hl, he⟩ := putM_ok (m := m) (by rw [h])
 rw [h] at he
 obtain rfl := (Prod.mk.inj he).1
 obtain ⟨u1, u2, u3, u4, u5, u6⟩ := hg
 intro x hx
 rcases List.mem_append.1 hx with hx | hx
 ·rcases List.mem_append.1 hx with hx | hx
  ·have := List.eq_of_mem_replicate hx; omega
  ·exact twoB_byte _ x hx
 rcases List.mem_cons.1 hx with rfl | hx
 ·omega
 unfold bodyB at hx
 by_cases k1 : m.kind = 1
 ·rw [if_pos k1] at hx
  simp only [List.mem_append, List.mem_cons, List.not_mem_nil, or_false] at hx
  rcases hx with ((((rfl | h) | h) | h) | h) | h
  ·omega
  ·exact twoB_byte _ x h
  ·exact twoB_byte _ x h
  ·exact addrBytes_byte u2 x h
  ·omega
  ·exact addrBytes_byte u1 x h
 rw [if_neg k1] at hx
 by_cases k2 : m.kind = 2
 ·rw [if_pos k2] at hx
  unfold rightM at hr
  rw [if_neg k1, if_pos k2] at hr
  obtain ⟨gb, hgb⟩ := nlPut_some hr.1
  obtain ⟨nb, hnb⟩ := nlPut_some hr.2.1
  rw [hgb, hnb] at hx
  simp only [Option.getD_some, List.mem_append] at hx
  rcases hx with (((h | h) | h) | h) | h
  ·exact twoB_byte _ x h
  ·exact nlPut_byte hgb u3 x h
  ·exact twoB_byte _ x h
  ·unfold attrsB at h
   split at h
   ·cases h
   ·rename_i hn
    exact (putP_bytes (hr.2.2.resolve_left hn) u5).1 x h
  ·exact nlPut_byte hnb u4 x h
 rw [if_neg k2] at hx
 by_cases k3 : m.kind = 3
 ·rw [if_pos k3] at hx
  unfold rightM at hr
  rw [if_neg k1, if_neg k2, if_pos k3] at hr
  rcases List.mem_cons.1 hx with rfl | hx
  ·omega
  rcases List.mem_cons.1 hx with rfl | hx
  ·omega
  exact u6 x hx
 ·rw [if_neg k3] at hx; cases hx
structure CF where
 asn : Int
 id : Int
 hold : Int
 peer : Int
structure PV where
 conf : CF
 state : Int
 buf : List Int
 hold : Int
 heard : Int
 said : Int
 id : Int
structure EV where
 kind : Int
 msg : MV
structure ST where
 p : PV
 out : List Int
 evs : List EV
def rightC (c : CF) : Prop := c.asn ≠ 0 ∧ c.id ≠ 0 ∧ c.peer ≠ 0 ∧ (c.hold = 0 ∨ (3 ≤ c.hold ∧ c.hold ≤ 65535))
instance (c : CF) : Decidable (rightC c) := by unfold rightC; infer_instance
def liveP (p : PV) : Prop := rightC p.conf ∧ 1 < p.state ∧ p.state ≤ 4
instance (p : PV) : Decidable (liveP p) := by unfold liveP; infer_instance
def freshP (c : CF) (state : Int) : PV := ⟨c, state, [], 0, 0, 0, 0⟩
def CF.zero : CF := ⟨0, 0, 0, 0⟩
def newP (c : CF) : PV × Int := if rightC c then (freshP c 1, 0) else (freshP CF.zero 0, 2)
def sayP (s : ST) (m : MV) : ST := { s with out := s.out ++ (putM m).1 }
def quietP (s : ST) : ST := { s with p := freshP s.p.conf 1, evs := s.evs ++ [⟨3, MV.zero⟩] }
def noticeM (code sub : Int) : MV := { MV.zero with kind := 3, code := code, sub := sub }
def aliveM : MV := { MV.zero with kind := 4 }
def openM (c : CF) : MV := { MV.zero with kind := 1, asn := c.asn, id := c.id, hold := c.hold }
def downP (s : ST) (code sub : Int) : ST := quietP (sayP s (noticeM code sub))
def openS (s : ST) (m : MV) : ST :=
 if m.asn ≠ s.p.conf.peer then downP s 2 2 else if m.id = s.p.conf.id then downP s 2 3
 else sayP { s with p := { s.p with state := 3, hold := min s.p.conf.hold m.hold, heard := 0, said := 0, id := m.id } } aliveM
def takeS (s : ST) (m : MV) : ST :=
 if m.kind = 3 then quietP s
 else if s.p.state = 2 then (if m.kind = 1 then openS s m else downP s 5 1)
 else if s.p.state = 3 then (if m.kind = 4 then { s with p := { s.p with state := 4, heard := 0 }, evs := s.evs ++ [⟨1, MV.zero⟩] } else downP s 5 2)
 else if s.p.state = 4 then (if m.kind = 1 then downP s 5 3 else { s with p := { s.p with heard := 0 }, evs := if m.kind = 2 then s.evs ++ [⟨2, m⟩] else s.evs })
 else s
def feedS : Nat → ST → ST
 | 0, s => s
 | f + 1, s => if s.p.state = 1 then s
   else if (readM s.p.buf).2.2 ≠ (0, 0) then downP s (readM s.p.buf).2.2.1 (readM s.p.buf).2.2.2
   else if (readM s.p.buf).2.1 = 0 then s
   else feedS f (takeS { s with p := { s.p with buf := s.p.buf.drop (readM s.p.buf).2.1.toNat } } (readM s.p.buf).1)
def stepOf (p : PV) : ST := ⟨p, [], []⟩
def startP (p : PV) : ST := if rightC p.conf ∧ p.state = 1 then sayP (stepOf (freshP p.conf 2)) (openM p.conf) else stepOf p
def feedP (p : PV) (b : List Int) : ST := if liveP p then feedS ((p.buf ++ b).length + 1) { stepOf p with p := { p with buf := p.buf ++ b } } else stepOf p
def wrapI (n : Int) : Int := IntKind.i64.wrap n
def tickP (p : PV) (n : Int) : ST :=
 if ¬ liveP p ∨ n < 1 ∨ n > 65536 then stepOf p
 else if p.state = 2 then (if wrapI (p.heard + n) ≥ 240 then downP (stepOf { p with heard := wrapI (p.heard + n) }) 4 0 else stepOf { p with heard := wrapI (p.heard + n) })
 else if p.hold = 0 then stepOf p
 else if wrapI (p.heard + n) ≥ p.hold then downP (stepOf { p with heard := wrapI (p.heard + n), said := wrapI (p.said + n) }) 4 0
 else if wrapI (p.said + n) ≥ max 1 (p.hold.tdiv 3) then sayP (stepOf { p with heard := wrapI (p.heard + n), said := 0 }) aliveM
 else stepOf { p with heard := wrapI (p.heard + n), said := wrapI (p.said + n) }
def stopP (p : PV) (code sub : Int) : ST := if liveP p ∧ 0 ≤ code ∧ code ≤ 255 ∧ 0 ≤ sub ∧ sub ≤ 255 then downP (stepOf p) code sub else stepOf p
end Go.Proofs.Ytbdejnnbpdgjlaa.Ax
