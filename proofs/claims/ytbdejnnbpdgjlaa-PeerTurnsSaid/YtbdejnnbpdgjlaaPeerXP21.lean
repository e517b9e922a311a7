/- Contracts of functions over the abstract machine. No conditions: lemmas alone. -/
import Derived.Test.YtbdejnnbpdgjlaaPeerXLibD
import Derived.Test.YtbdejnnbpdgjlaaPeerXP0
import Derived.Test.YtbdejnnbpdgjlaaPeerXP20
namespace Go.Proofs.Ytbdejnnbpdgjlaa.Ax
open Go Go.RowKit
open Nat renaming reduceAdd → ν1, reduceMul → ν2, reduceLeDiff → ν3, reduceLT → ν4, reduceSub → ν5
open Int renaming reduceNe → ζ1, reduceEq → ζ2, reduceLE → ζ3, reduceLT → ζ4, reduceToNat → ζ5
set_option linter.unusedVariables false
set_option linter.unusedSimpArgs false
set_option maxRecDepth 100000
set_option maxHeartbeats 20000000
attribute [local irreducible] thenA blockA scopeA retA AL AW AD ADL AH clrK CallA apure aload bload appK ptrK fnK ares szOk planOk okOps
theorem d18_Msc {g n : Prop} (k : n) (h : n → g := by first | exact AW.dr (id := 10) (by rfl) [0, 1, 3, 4, 5, 6, 2, 7, 8] (by kernel_rfl) (by kernel_rfl) | exact AW.dr (id := 29) (by rfl) [0, 1, 2, 3, 4, 5, 6, 7, 8, 9, 10, 11, 12] (by kernel_rfl) (by kernel_rfl) | exact AW.dr (id := 31) (by rfl) [0, 1, 2, 3, 4, 5] (by kernel_rfl) (by kernel_rfl) | exact AW.dr (id := 32) (by rfl) [0, 1, 2, 3, 4] (by kernel_rfl) (by kernel_rfl)) : g := h k
theorem a18_Msc {g n : Prop} (k : n) (h : n → g := by first | exact AH.stF (i := 3) (ty := 44) (y := .tmp 108) rfl rfl | exact AH.stF (i := 2) (ty := 44) (y := .tmp 111) rfl rfl | exact AH.ca (dst := some 29) rfl | exact AH.ca (dst := some 103) rfl) : g := h k
def MRn (lo : Nat) (M : Mem) (r : Value) (P : MV × Int × (Int × Int)) : Prop := ∃ g a c nw d, r = .tuple ⟨[.agg ⟨mvL P.1 g a c nw d⟩, .int .i64 P.2.1, .agg ⟨[.int .i64 P.2.2.1, .int .i64 P.2.2.2]⟩]⟩ ∧ (isSl g = true ∧ isSl a = true ∧ isSl c = true ∧ isSl nw = true ∧ isSl d = true) ∧ MVin M P.1 g a c nw d ∧ ∀ b ∈ blkOf g ++ (blkOf a ++ (blkOf c ++ (blkOf nw ++ blkOf d))), lo ≤ b
theorem MRn.nothing {lo : Nat} {M : Mem} {f1 f2 : Int} {P : MV × Int × (Int × Int)} (h : P = (MV.zero, 0, (f1, f2))) : MRn lo M (.tuple ⟨[.agg ⟨[.int .i64 0, .int .u32 0, .int .u32 0, .int .i64 0, .slice none 0 0, .int .i64 0, .slice none 0 0, .int .u32 0, .int .u32 0, .int .u32 0, .bool false, .bool false, .slice none 0 0, .slice none 0 0, .int .i64 0, .int .i64 0, .slice none 0 0]⟩, .int .i64 0, .agg ⟨[.int .i64 f1, .int .i64 f2]⟩]⟩) P :=
 ⟨.slice none 0 0, .slice none 0 0, .slice none 0 0, .slice none 0 0, .slice none 0 0, by rw [h]; rfl, ⟨rfl, rfl, rfl, rfl, rfl⟩, by rw [h]; exact ⟨Sl.nil _ (by omega), Sl.nil _ (by omega), Sl.nil _ (by omega), Sl.nil _ (by omega), Sl.nil _ (by omega)⟩, by simp [blkOf]⟩
theorem MVin.keepX {M M' : Mem} {m : MV} {g a c nw d : Value} {X : List Nat} (h : MVin M m g a c nw d) (f : Fr M M' X) (hx : ∀ b ∈ blkOf g ++ (blkOf a ++ (blkOf c ++ (blkOf nw ++ blkOf d))), b ∉ X) : MVin M' m g a c nw d :=
 ⟨h.gone.keep f fun b hb => hx b (by simp [hb]), h.path.keep f fun b hb => hx b (by simp [hb]), h.comms.keep f fun b hb => hx b (by simp [hb]), h.new.keep f fun b hb => hx b (by simp [hb]), h.data.keep f fun b hb => hx b (by simp [hb])⟩
def mv3 (c s : Int) (d : Value) : List Value := [.int .i64 3, .int .u32 0, .int .u32 0, .int .i64 0, .slice none 0 0, .int .i64 0, .slice none 0 0, .int .u32 0, .int .u32 0, .int .u32 0, .bool false, .bool false, .slice none 0 0, .slice none 0 0, .int .i64 c, .int .i64 s, d]
def RdQ (M : Mem) (s : Nat) (b : List Int) (v2 v4 : Value) (M' : Mem) : Prop := ∃ m g a c nw d c1 c2, v2 = .pointer (some ⟨s, 0, none⟩) ∧ v4 = .pointer (some ⟨s + 1, 0, none⟩) ∧ At M' s (.box (mvL m g a c nw d)) ∧ At M' (s + 1) (.box [.int .i64 c1, .int .i64 c2]) ∧ Fr M M' [] ∧ readM b = (MV.zero, 0, (c1, c2))
theorem mread_spec (v : Value) (b : List Int) (M : Mem) (hv : Sl M v 1 (ints .u8 b)) (hb : ∀ x ∈ b, 0 ≤ x ∧ x ≤ 255) (hl : b.length ≤ 10000000) : CallA Try.prog 18 [v] M fun r M' => Fr M M' [] ∧ MRn M.length M' r (readM b) := by
 have sv := hv.isSl
 have nv := hv.lnI
 (refine CallA.of_body Try.func18 rfl (by rfl) ?_; simp only [Try.ntmps18, List.length_cons, List.length_nil, List.replicate, List.cons_append, List.nil_append, Nat.reduceSub, Nat.reduceAdd])
 (repeat (first | refine st ?_ | refine σa ?_ | refine d18_Msc ?_ | ((first | refine a18_Msc ?_ | refine σb ?_ | refine σc ?_); simp (disch := omega) only [push_cast, ↓reduceIte, reduceCtorEq, ν1, ν2, ν3, ν4, ν5, ζ1, ζ2, ζ3, ζ4, ζ5, sv, nv, lsE])))
 simp only [List.length_append, List.length_cons, List.length_nil, Nat.zero_add, Nat.add_assoc, Nat.reduceAdd]
 have F0 := (Fr.push M (.box (mv0 0 0 0 0))).tr (Fr.push _ (.box [.int .i64 0, .int .i64 0]))
 have A0 := (At.push M (.box (mv0 0 0 0 0))).keep (Fr.push _ (.box [.int .i64 0, .int .i64 0])) (by simp)
 have Q0 := At.push (M ++ [.box (mv0 0 0 0 0)]) (.box [.int .i64 0, .int .i64 0])
 simp only [List.length_append, List.length_cons, List.length_nil, Nat.zero_add, Nat.add_assoc, Nat.reduceAdd] at Q0
 unfold mv0 at F0 A0 Q0
 generalize M ++ [Blk.box [.int .i64 0, .int .u32 0, .int .u32 0, .int .i64 0, .slice none 0 0, .int .i64 0, .slice none 0 0, .int .u32 0, .int .u32 0, .int .u32 0, .bool false, .bool false, .slice none 0 0, .slice none 0 0, .int .i64 0, .int .i64 0, .slice none 0 0]] ++ [Blk.box [.int .i64 0, .int .i64 0]] = M0 at *
 obtain ⟨s, hs⟩ : ∃ s, s = M.length := ⟨_, rfl⟩
 rw [← hs] at A0 Q0 ⊢
 have hv0 := hv.keep F0 (by simp)
 have hvb := hv.blks
 refine AW.scopeK 0 9 113 (fun n g M' => RdQ M s b (g 2) (g 4) M') (fun _ _ => False) ?_ ?_ ?_
 ·rintro n g M1 ⟨m, ga, a, c, nw, d, c1, c2, h2, h4, A1, Q1, F1, hP⟩
  show AW _ (.seq _ _) _ _ _
  simp (disch := omega) only [push_cast, ↓reduceIte, reduceCtorEq, Nat.reduceAdd, Nat.reduceMul, Nat.reduceLeDiff, Nat.reduceLT, Nat.reduceSub, Int.reduceNe, Int.reduceEq, Int.reduceLE, Int.reduceLT, Int.reduceToNat, lstOf_zero, lstOf_succ, h2, h4]
  unfold mvL at A1
  have Ax := A1.set (.box (mv0 0 0 0 0))
  have Qx := Q1.keep (Fr.set M1 s (.box (mv0 0 0 0 0))) (by simp)
  unfold mv0 at Ax Qx
  (repeat (first | refine st ?_ | refine σa ?_ | refine d18_Msc ?_ | ((first | refine a18_Msc ?_ | refine σb ?_ | refine σc ?_); simp (disch := omega) only [push_cast, ↓reduceIte, reduceCtorEq, ν1, ν2, ν3, ν4, ν5, ζ1, ζ2, ζ3, ζ4, ζ5, Q1.ld, Qx.ld, A1.get, A1.same, Qx.get, Qx.same, List.drop_nil, List.append_nil, boxE, buildE, lsE])))
  ((first | refine retA.ret (by rfl) ?_ | refine retA.normal (by rfl) ?_); simp (disch := omega) only [push_cast, ↓reduceIte, reduceCtorEq, Nat.reduceAdd, Nat.reduceMul, Nat.reduceLeDiff, Nat.reduceLT, Nat.reduceSub, Int.reduceNe, Int.reduceEq, Int.reduceLE, Int.reduceLT, Int.reduceToNat, Ax.ld, Qx.ld, buildE])
  exact ⟨(F1.trans (Fr.set M1 s _)).cut (fun c hc hlt => by simp at hc; omega), MRn.nothing hP⟩
 ·rintro n g M1 h
  cases h
 rintro -
 have sz0 := hv0.sz
 obtain ⟨K, hK⟩ : ∃ K, K = min b.length 16 := ⟨_, rfl⟩
 have hmin : (if (16 : Int) < (b.length : Int) then 16 else (b.length : Int)) = (K : Int) := by split <;> omega
 obtain ⟨w, hw', pw⟩ := hv0.pcTo K (by omega)
 have hw : aslice v 1 none (some (.int .i64 (K : Int))) none = some w := hw'
 have sw := pw.sl.isSl
 have nw := pw.sl.lnI
 have lw : (b.take K).length = K := by rw [List.length_take]; omega
 rw [lw] at nw
 (repeat (first | refine st ?_ | refine σa ?_ | refine d18_Msc ?_ | ((first | refine a18_Msc ?_ | refine σb ?_ | refine σc ?_); simp (disch := omega) only [push_cast, ↓reduceIte, reduceCtorEq, ν1, ν2, ν3, ν4, ν5, ζ1, ζ2, ζ3, ζ4, ζ5, sv, nv, sz0, hmin, hw, sw, nw, Option.map_none, lsE])))
 refine AW.loopF [7, 14, 15, 16, 17, 18, 19, 20, 21] (fun n g M' => ∃ i : Nat, g 14 = .int .i64 (i : Int) ∧ n = K - i ∧ i ≤ K ∧ (∀ x ∈ b.take i, x = 255) ∧ M' = M0) K ?_ ?_
 ·exact ⟨0, rfl, rfl, by omega, by simp, rfl⟩
 rintro n g M1 ⟨i, hi, hn, hiK, h255, rfl⟩
 simp (disch := omega) only [push_cast, ↓reduceIte, reduceCtorEq, Nat.reduceAdd, Nat.reduceMul, Nat.reduceLeDiff, Nat.reduceLT, Nat.reduceSub, Int.reduceNe, Int.reduceEq, Int.reduceLE, Int.reduceLT, Int.reduceToNat, hi]
 by_cases ci : i < K
 ·have d : decide ((i : Int) < (K : Int)) = true := decide_eq_true (by omega)
  have wi : IntKind.i64.wrap ((i : Int) + 1) = i + 1 := w_i64 (by omega) (by omega)
  have ldi := pw.sl.ldN (P := Try.prog) (ty := 5) (i := i) (by kernel_rfl) (by rw [lw]; exact ci)
  have eti : ((i : Nat) : Int).toNat = i := Int.toNat_natCast i
  have hti : (b.take K).getD i 0 = b.getD i 0 := by
   rw [List.getD_eq_getElem?_getD, List.getD_eq_getElem?_getD, List.getElem?_take, if_pos ci]
  rw [hti] at ldi
  by_cases cx : b.getD i 0 = 255
  ·have dx : decide (b.getD i 0 = 255) = true := decide_eq_true cx
   (repeat (first | refine st ?_ | refine σa ?_ | refine d18_Msc ?_ | ((first | refine a18_Msc ?_ | refine σb ?_ | refine σc ?_); simp (disch := omega) only [push_cast, ↓reduceIte, reduceCtorEq, ν1, ν2, ν3, ν4, ν5, ζ1, ζ2, ζ3, ζ4, ζ5, sv, nv, sw, nw, d, eti, ldi, dx, wi, Bool.not_true, Bool.not_false, lsE])))
   refine ⟨rfl, K - (i + 1), by omega, i + 1, by push_cast; rfl, rfl, by omega, ?_, rfl⟩
   intro x hx
   rw [take_snocI (by omega)] at hx
   rcases List.mem_append.1 hx with h | h
   ·exact h255 x h
   ·rw [List.mem_singleton] at h; rw [h]; exact cx
  ·have dx : decide (b.getD i 0 = 255) = false := decide_eq_false cx
   have e : readM b = (MV.zero, 0, (1, 1)) := by
    unfold readM
    rw [if_pos]
    refine ⟨b.getD i 0, ?_, cx⟩
    rw [List.getD_eq_getElem?_getD, List.getElem?_eq_getElem (by omega)]
    exact List.mem_take_iff_getElem.2 ⟨i, by omega, rfl⟩
   have Qx := Q0.set (.box [.int .i64 1, .int .i64 1])
   have Ax := A0.keep (Fr.set M1 (s + 1) (.box [.int .i64 1, .int .i64 1])) (by simp)
   (repeat (first | refine st ?_ | refine σa ?_ | refine d18_Msc ?_ | ((first | refine a18_Msc ?_ | refine σb ?_ | refine σc ?_); simp (disch := omega) only [push_cast, ↓reduceIte, reduceCtorEq, ν1, ν2, ν3, ν4, ν5, ζ1, ζ2, ζ3, ζ4, ζ5, sv, nv, sw, nw, d, eti, ldi, dx, Q0.get, Q0.same, List.drop_nil, List.append_nil, Bool.not_true, Bool.not_false, boxE, buildE, lsE])))
   exact scopeA.goto rfl 0 (fun k hk => by cases hk) ⟨rfl, .inl ⟨rfl, MV.zero, .slice none 0 0, .slice none 0 0, .slice none 0 0, .slice none 0 0, .slice none 0 0, 1, 1, rfl, rfl, Ax, Qx, (F0.trans (Fr.set M1 (s + 1) _)).cut (fun c hc hlt => by simp at hc; omega), e⟩⟩
 have d : decide ((i : Int) < (K : Int)) = false := decide_eq_false (by omega)
 obtain rfl : i = K := by omega
 have all255 : ¬ ∃ x ∈ b.take 16, x ≠ 255 := by
  rintro ⟨x, hx, hne⟩
  refine hne (h255 x ?_)
  rw [hK]
  by_cases c : 16 ≤ b.length
  ·rw [Nat.min_eq_right c]; exact hx
  ·rw [Nat.min_eq_left (by omega), List.take_length]; exact List.mem_of_mem_take hx
 by_cases c19 : b.length < 19
 ·have d19 : decide ((b.length : Int) < 19) = true := decide_eq_true (by omega)
  have e : readM b = (MV.zero, 0, (0, 0)) := by unfold readM; rw [if_neg all255, if_pos c19]
  (repeat (first | refine st ?_ | refine σa ?_ | refine d18_Msc ?_ | ((first | refine a18_Msc ?_ | refine σb ?_ | refine σc ?_); simp (disch := omega) only [push_cast, ↓reduceIte, reduceCtorEq, ν1, ν2, ν3, ν4, ν5, ζ1, ζ2, ζ3, ζ4, ζ5, sv, nv, sw, nw, d, d19, A0.get, A0.same, Q0.get, Q0.same, List.drop_nil, List.append_nil, boxE, buildE, lsE])))
  ((first | refine retA.ret (by rfl) ?_ | refine retA.normal (by rfl) ?_); simp (disch := omega) only [push_cast, ↓reduceIte, reduceCtorEq, Nat.reduceAdd, Nat.reduceMul, Nat.reduceLeDiff, Nat.reduceLT, Nat.reduceSub, Int.reduceNe, Int.reduceEq, Int.reduceLE, Int.reduceLT, Int.reduceToNat, A0.ld, Q0.ld, buildE])
  exact ⟨F0, MRn.nothing e⟩
 have d19 : decide ((b.length : Int) < 19) = false := decide_eq_false (by omega)
 have bl0 := eq_true hv0.blks
 obtain ⟨v16, h16', p16⟩ := hv0.pcFrom 16 (by omega)
 have h16 : aslice v 1 (some (.int .i64 16)) none none = some v16 := h16'
 have ld18 := hv0.ldN (P := Try.prog) (ty := 5) (i := 18) (by kernel_rfl) (by omega)
 have lt18 : (18 : Int) < (b.length : Int) := by omega
 (repeat (first | refine st ?_ | refine σa ?_ | refine d18_Msc ?_ | ((first | refine a18_Msc ?_ | refine σb ?_ | refine σc ?_); simp (disch := omega) only [push_cast, ↓reduceIte, reduceCtorEq, ν1, ν2, ν3, ν4, ν5, ζ1, ζ2, ζ3, ζ4, ζ5, sv, nv, sw, nw, d, d19, bl0, sz0, h16, Option.map_none, lt18, ld18, lsE])))
 refine (pair_spec v16 _ M1 p16.sl (by rw [List.length_drop]; omega) (fun x hx => hb x (List.mem_of_mem_drop hx))).mono ?_
 rintro r M1 ⟨rfl, rfl⟩
 refine ⟨Fr.refl _, ?_⟩
 have e16 : pairAt (b.drop 16) 0 = pairAt b 16 := by simp [pairAt, List.getD_eq_getElem?_getD, List.getElem?_drop]
 rw [e16]
 have hN := pairAt_rng hb 16
 have hk8 := getD_byte hb 18
 have hrd : ∀ f, headF b = f → f ≠ (0, 0) → readM b = (MV.zero, 0, f) := by
  intro f h hne
  unfold readM
  rw [if_neg all255, if_neg c19, if_pos (by rw [h]; exact hne), h]
 have hgo : headF b = (0, 0) → readM b = if (b.length : Int) < pairAt b 16 then (MV.zero, 0, (0, 0))
   else if (bodyP (b.getD 18 0) ((b.drop 19).take ((pairAt b 16).toNat - 19))).2 = (0, 0) then ((bodyP (b.getD 18 0) ((b.drop 19).take ((pairAt b 16).toNat - 19))).1, pairAt b 16, (0, 0))
   else (MV.zero, 0, (bodyP (b.getD 18 0) ((b.drop 19).take ((pairAt b 16).toNat - 19))).2) := by
  intro h
  unfold readM
  rw [if_neg all255, if_neg c19, if_neg (by rw [h]; simp)]
 have hhd : headF b = if pairAt b 16 < 19 ∨ pairAt b 16 > 4096 then (1, 2) else if b.getD 18 0 < 1 ∨ b.getD 18 0 > 4 then (1, 3) else if pairAt b 16 < leastP (b.getD 18 0) ∨ (b.getD 18 0 = 4 ∧ pairAt b 16 > 19) then (1, 2) else (0, 0) := rfl
 obtain ⟨N, hNe⟩ : ∃ N, N = pairAt b 16 := ⟨_, rfl⟩
 obtain ⟨kd, hkd⟩ : ∃ kd, kd = b.getD 18 0 := ⟨_, rfl⟩
 rw [← hNe, ← hkd] at hhd hgo
 rw [← hNe] at hN
 rw [← hkd] at hk8
 rw [← hNe, ← hkd]
 obtain ⟨nn, rfl⟩ : ∃ nn : Nat, N = nn := ⟨N.toNat, by omega⟩
 generalize hN' : (nn : Int) = N at *
 have k81 := hk8.1
 have k82 := hk8.2
 have wk : IntKind.i64.wrap kd = kd := w_i64 (by omega) (by omega)
 by_cases c1 : N < 19
 ·have d1 : decide (N < 19) = true := decide_eq_true c1
  have e : readM b = (MV.zero, 0, (1, 2)) := hrd (1, 2) (by rw [hhd, if_pos (.inl c1)]) (by simp)
  have Qx := Q0.set (.box [.int .i64 1, .int .i64 2])
  have Ax := A0.keep (Fr.set M1 (s + 1) (.box [.int .i64 1, .int .i64 2])) (by simp)
  have dq : decide (((1 : Int), (2 : Int)) = (0, 0)) = false := rfl
  (repeat (first | refine st ?_ | refine σa ?_ | refine d18_Msc ?_ | ((first | refine a18_Msc ?_ | refine σb ?_ | refine σc ?_); simp (disch := omega) only [push_cast, ↓reduceIte, reduceCtorEq, ν1, ν2, ν3, ν4, ν5, ζ1, ζ2, ζ3, ζ4, ζ5, wk, d1, Q0.get, Q0.same, Qx.ld, ft_eq, aggB, dq, List.drop_nil, List.append_nil, Bool.not_true, Bool.not_false, boxE, buildE, lsE])))
  exact scopeA.goto rfl 0 (fun k hk => by cases hk) ⟨rfl, .inl ⟨rfl, MV.zero, .slice none 0 0, .slice none 0 0, .slice none 0 0, .slice none 0 0, .slice none 0 0, 1, 2, rfl, rfl, Ax, Qx, (F0.trans (Fr.set M1 (s + 1) _)).cut (fun c hc hlt => by simp at hc; omega), e⟩⟩
 have d1 : decide (N < 19) = false := decide_eq_false c1
 by_cases c2 : N > 4096
 ·have d2 : decide (N > 4096) = true := decide_eq_true c2
  have e : readM b = (MV.zero, 0, (1, 2)) := hrd (1, 2) (by rw [hhd, if_pos (.inr c2)]) (by simp)
  have Qx := Q0.set (.box [.int .i64 1, .int .i64 2])
  have Ax := A0.keep (Fr.set M1 (s + 1) (.box [.int .i64 1, .int .i64 2])) (by simp)
  have dq : decide (((1 : Int), (2 : Int)) = (0, 0)) = false := rfl
  (repeat (first | refine st ?_ | refine σa ?_ | refine d18_Msc ?_ | ((first | refine a18_Msc ?_ | refine σb ?_ | refine σc ?_); simp (disch := omega) only [push_cast, ↓reduceIte, reduceCtorEq, ν1, ν2, ν3, ν4, ν5, ζ1, ζ2, ζ3, ζ4, ζ5, wk, d1, d2, Q0.get, Q0.same, Qx.ld, ft_eq, aggB, dq, List.drop_nil, List.append_nil, Bool.not_true, Bool.not_false, boxE, buildE, lsE])))
  exact scopeA.goto rfl 0 (fun k hk => by cases hk) ⟨rfl, .inl ⟨rfl, MV.zero, .slice none 0 0, .slice none 0 0, .slice none 0 0, .slice none 0 0, .slice none 0 0, 1, 2, rfl, rfl, Ax, Qx, (F0.trans (Fr.set M1 (s + 1) _)).cut (fun c hc hlt => by simp at hc; omega), e⟩⟩
 have d2 : decide (N > 4096) = false := decide_eq_false c2
 rw [if_neg (by omega)] at hhd
 by_cases c3 : kd < 1
 ·have d3 : decide (kd < 1) = true := decide_eq_true c3
  have e : readM b = (MV.zero, 0, (1, 3)) := hrd (1, 3) (by rw [hhd, if_pos (.inl c3)]) (by simp)
  have Qx := Q0.set (.box [.int .i64 1, .int .i64 3])
  have Ax := A0.keep (Fr.set M1 (s + 1) (.box [.int .i64 1, .int .i64 3])) (by simp)
  have dq : decide (((1 : Int), (3 : Int)) = (0, 0)) = false := rfl
  (repeat (first | refine st ?_ | refine σa ?_ | refine d18_Msc ?_ | ((first | refine a18_Msc ?_ | refine σb ?_ | refine σc ?_); simp (disch := omega) only [push_cast, ↓reduceIte, reduceCtorEq, ν1, ν2, ν3, ν4, ν5, ζ1, ζ2, ζ3, ζ4, ζ5, wk, d1, d2, d3, Q0.get, Q0.same, Qx.ld, ft_eq, aggB, dq, List.drop_nil, List.append_nil, Bool.not_true, Bool.not_false, boxE, buildE, lsE])))
  exact scopeA.goto rfl 0 (fun k hk => by cases hk) ⟨rfl, .inl ⟨rfl, MV.zero, .slice none 0 0, .slice none 0 0, .slice none 0 0, .slice none 0 0, .slice none 0 0, 1, 3, rfl, rfl, Ax, Qx, (F0.trans (Fr.set M1 (s + 1) _)).cut (fun c hc hlt => by simp at hc; omega), e⟩⟩
 have d3 : decide (kd < 1) = false := decide_eq_false c3
 by_cases c4 : kd > 4
 ·have d4 : decide (kd > 4) = true := decide_eq_true c4
  have e : readM b = (MV.zero, 0, (1, 3)) := hrd (1, 3) (by rw [hhd, if_pos (.inr c4)]) (by simp)
  have Qx := Q0.set (.box [.int .i64 1, .int .i64 3])
  have Ax := A0.keep (Fr.set M1 (s + 1) (.box [.int .i64 1, .int .i64 3])) (by simp)
  have dq : decide (((1 : Int), (3 : Int)) = (0, 0)) = false := rfl
  (repeat (first | refine st ?_ | refine σa ?_ | refine d18_Msc ?_ | ((first | refine a18_Msc ?_ | refine σb ?_ | refine σc ?_); simp (disch := omega) only [push_cast, ↓reduceIte, reduceCtorEq, ν1, ν2, ν3, ν4, ν5, ζ1, ζ2, ζ3, ζ4, ζ5, wk, d1, d2, d3, d4, Q0.get, Q0.same, Qx.ld, ft_eq, aggB, dq, List.drop_nil, List.append_nil, Bool.not_true, Bool.not_false, boxE, buildE, lsE])))
  exact scopeA.goto rfl 0 (fun k hk => by cases hk) ⟨rfl, .inl ⟨rfl, MV.zero, .slice none 0 0, .slice none 0 0, .slice none 0 0, .slice none 0 0, .slice none 0 0, 1, 3, rfl, rfl, Ax, Qx, (F0.trans (Fr.set M1 (s + 1) _)).cut (fun c hc hlt => by simp at hc; omega), e⟩⟩
 have d4 : decide (kd > 4) = false := decide_eq_false c4
 rw [if_neg (by omega)] at hhd
 have body19 : nn ≤ b.length → 19 ≤ nn → ∃ w, aslice v 1 (some (.int .i64 19)) (some (.int .i64 N)) none = some w ∧ Pc M1 v w ((b.drop 19).take (nn - 19)) := fun h1 h2 => by
  obtain ⟨w, h, p⟩ := hv0.pcMid 19 nn h2 h1
  exact ⟨w, by rw [← hN']; exact h, p⟩
 have eN : N.toNat = nn := by omega
 rw [eN] at hgo
 obtain hk | hk | hk | hk : kd = 1 ∨ kd = 2 ∨ kd = 3 ∨ kd = 4 := by omega
 ·subst hk
  have hL : leastP 1 = 29 := rfl
  have hap : apart1 Try.prog 3 [.int .i64 0, .int .i64 29, .int .i64 23, .int .i64 21, .int .i64 19] 1 = some (.int .i64 29) := by kernel_rfl
  rw [hL] at hhd
  by_cases c5 : N < 29
  ·have d5 : decide (N < 29) = true := decide_eq_true c5
   have e : readM b = (MV.zero, 0, (1, 2)) := hrd (1, 2) (by rw [hhd, if_pos (.inl c5)]) (by simp)
   have Qx := Q0.set (.box [.int .i64 1, .int .i64 2])
   have Ax := A0.keep (Fr.set M1 (s + 1) (.box [.int .i64 1, .int .i64 2])) (by simp)
   have dq : decide (((1 : Int), (2 : Int)) = (0, 0)) = false := rfl
   (repeat (first | refine st ?_ | refine σa ?_ | refine d18_Msc ?_ | ((first | refine a18_Msc ?_ | refine σb ?_ | refine σc ?_); simp (disch := omega) only [push_cast, ↓reduceIte, reduceCtorEq, ν1, ν2, ν3, ν4, ν5, ζ1, ζ2, ζ3, ζ4, ζ5, wk, d1, d2, d3, d4, d5, hap, Q0.get, Q0.same, Qx.ld, ft_eq, aggB, dq, List.drop_nil, List.append_nil, Bool.not_true, Bool.not_false, boxE, buildE, lsE])))
   exact scopeA.goto rfl 0 (fun k hk => by cases hk) ⟨rfl, .inl ⟨rfl, MV.zero, .slice none 0 0, .slice none 0 0, .slice none 0 0, .slice none 0 0, .slice none 0 0, 1, 2, rfl, rfl, Ax, Qx, (F0.trans (Fr.set M1 (s + 1) _)).cut (fun c hc hlt => by simp at hc; omega), e⟩⟩
  have d5 : decide (N < 29) = false := decide_eq_false c5
  have eh : headF b = (0, 0) := by rw [hhd, if_neg (by omega)]
  have hgo' := hgo eh
  by_cases c7 : (b.length : Int) < N
  ·have d7 : decide ((b.length : Int) < N) = true := decide_eq_true c7
   rw [if_pos c7] at hgo'
   have dq : decide (((0 : Int), (0 : Int)) = (0, 0)) = true := rfl
   (repeat (first | refine st ?_ | refine σa ?_ | refine d18_Msc ?_ | ((first | refine a18_Msc ?_ | refine σb ?_ | refine σc ?_); simp (disch := omega) only [push_cast, ↓reduceIte, reduceCtorEq, ν1, ν2, ν3, ν4, ν5, ζ1, ζ2, ζ3, ζ4, ζ5, wk, d1, d2, d3, d4, d5, hap, sv, nv, d7, A0.get, A0.same, Q0.get, Q0.same, Q0.ld, ft_eq, aggB, dq, List.drop_nil, List.append_nil, Bool.not_true, Bool.not_false, boxE, buildE, lsE])))
   ((first | refine retA.ret (by rfl) ?_ | refine retA.normal (by rfl) ?_); simp (disch := omega) only [push_cast, ↓reduceIte, reduceCtorEq, Nat.reduceAdd, Nat.reduceMul, Nat.reduceLeDiff, Nat.reduceLT, Nat.reduceSub, Int.reduceNe, Int.reduceEq, Int.reduceLE, Int.reduceLT, Int.reduceToNat, A0.ld, Q0.ld, buildE])
   exact ⟨F0, MRn.nothing hgo'⟩
  have d7 : decide ((b.length : Int) < N) = false := decide_eq_false c7
  rw [if_neg c7] at hgo'
  obtain ⟨w19, h19, p19⟩ := body19 (by omega) (by omega)
  have dq0 : decide (((0 : Int), (0 : Int)) = (0, 0)) = true := rfl
  (repeat (first | refine st ?_ | refine σa ?_ | refine d18_Msc ?_ | ((first | refine a18_Msc ?_ | refine σb ?_ | refine σc ?_); simp (disch := omega) only [push_cast, ↓reduceIte, reduceCtorEq, ν1, ν2, ν3, ν4, ν5, ζ1, ζ2, ζ3, ζ4, ζ5, wk, d1, d2, d3, d4, d5, hap, sv, nv, sz0, bl0, h19, d7, Option.map_none, Q0.ld, ft_eq, aggB, dq0, Bool.not_true, Bool.not_false, buildE, lsE])))
  have hbb : ∀ x ∈ (b.drop 19).take (nn - 19), 0 ≤ x ∧ x ≤ 255 := fun x hx => hb x (List.mem_of_mem_drop (List.mem_of_mem_take hx))
  have hbl : ((b.drop 19).take (nn - 19)).length = nn - 19 := by rw [List.length_take, List.length_drop]; omega
  refine (mopen_spec w19 _ M1 p19.sl hbb (by omega) (by omega)).mono ?_
  rintro r M2 ⟨f2, m, ga, a, c, nw, d, rfl, ⟨i1, i2, i3, i4, i5⟩, hok⟩
  have A2 := A0.keep f2 (by simp)
  have Q2 := Q0.keep f2 (by simp)
  have F2 := F0.tr f2
  have l2 := f2.1
  have lM := F0.1
  have eB : bodyP 1 ((b.drop 19).take (nn - 19)) = openP ((b.drop 19).take (nn - 19)) := rfl
  rw [eB] at hgo'
  generalize openP ((b.drop 19).take (nn - 19)) = P at *
  obtain ⟨bm, q1, q2⟩ := P
  simp only at hok hgo' ⊢
  have g1 := isSl_cl i1
  have g2 := isSl_cl i2
  have g3 := isSl_cl i3
  have g4 := isSl_cl i4
  have g5 := isSl_cl i5
  have o1 := isSl_one i1
  have o2 := isSl_one i2
  have o3 := isSl_one i3
  have o4 := isSl_one i4
  have o5 := isSl_one i5
  simp only [Value.oneCell'] at o1 o2 o3 o4 o5
  have A3 := (A2.set (.box (mvL m ga a c nw d))).keep (Fr.set _ (s + 1) (.box [.int .i64 q1, .int .i64 q2])) (by simp)
  have Q3 := (Q2.keep (Fr.set M2 s (.box (mvL m ga a c nw d))) (by simp))
  have Q4 := Q3.set (.box [.int .i64 q1, .int .i64 q2])
  have F4 : Fr M _ [] := ((F2.trans (Fr.set M2 s (.box (mvL m ga a c nw d)))).trans (Fr.set _ (s + 1) (.box [.int .i64 q1, .int .i64 q2]))).cut (fun c hc hlt => by simp at hc; omega)
  unfold mvL at A3 Q3 Q4 F4
  unfold mvL
  by_cases cf : q1 = 0 ∧ q2 = 0
  ·have dq : decide (q1 = 0 ∧ q2 = 0) = true := decide_eq_true cf
   obtain ⟨rfl, rfl⟩ := cf
   obtain ⟨rfl, hin, hblk⟩ := hok rfl
   rw [if_pos rfl] at hgo'
   (repeat (first | refine st ?_ | refine σa ?_ | refine d18_Msc ?_ | ((first | refine a18_Msc ?_ | refine σb ?_ | refine σc ?_); simp (disch := omega) only [push_cast, ↓reduceIte, reduceCtorEq, ν1, ν2, ν3, ν4, ν5, ζ1, ζ2, ζ3, ζ4, ζ5, A2.get, A2.same, Q3.get, g1, g2, g3, g4, g5, o1, o2, o3, o4, o5, List.drop_nil, List.append_nil, Bool.not_true, Bool.not_false, A3.ld, Q4.ld, A3.get, Q4.get, A3.same, Q4.same, ft_eq, aggB, dq, boxE, buildE, lsE])))
   ((first | refine retA.ret (by rfl) ?_ | refine retA.normal (by rfl) ?_); simp (disch := omega) only [push_cast, ↓reduceIte, reduceCtorEq, Nat.reduceAdd, Nat.reduceMul, Nat.reduceLeDiff, Nat.reduceLT, Nat.reduceSub, Int.reduceNe, Int.reduceEq, Int.reduceLE, Int.reduceLT, Int.reduceToNat, A3.ld, Q4.ld, g1, g2, g3, g4, g5, o1, o2, o3, o4, o5, buildE])
   refine ⟨F4, ga, a, c, nw, d, by rw [hgo']; rfl, ⟨i1, i2, i3, i4, i5⟩, ?_, fun x hx => by have := hblk x hx; omega⟩
   rw [hgo']
   have z1 := A0.lt
   have z2 := Q0.lt
   exact (hin.keepX (Fr.set _ s _) (fun x hx => by have := hblk x hx; simp; omega)).keepX (Fr.set _ (s + 1) _) (fun x hx => by have := hblk x hx; simp; omega)
  ·have dq : decide (q1 = 0 ∧ q2 = 0) = false := decide_eq_false cf
   rw [if_neg (fun e => cf (by cases e; exact ⟨rfl, rfl⟩))] at hgo'
   have A5 := (A3.set (.box (mv0 0 0 0 0)))
   have Q5 := Q4.keep (Fr.set _ s (.box (mv0 0 0 0 0))) (by simp)
   have F5 := (F4.trans (Fr.set _ s (.box (mv0 0 0 0 0)))).cut (Y := []) (fun c hc hlt => by simp at hc; omega)
   unfold mv0 at A5 Q5 F5
   (repeat (first | refine st ?_ | refine σa ?_ | refine d18_Msc ?_ | ((first | refine a18_Msc ?_ | refine σb ?_ | refine σc ?_); simp (disch := omega) only [push_cast, ↓reduceIte, reduceCtorEq, ν1, ν2, ν3, ν4, ν5, ζ1, ζ2, ζ3, ζ4, ζ5, A2.get, A2.same, Q3.get, Q3.same, g1, g2, g3, g4, g5, o1, o2, o3, o4, o5, List.drop_nil, List.append_nil, Bool.not_true, Bool.not_false, A3.ld, Q4.ld, A3.get, Q4.get, A3.same, Q4.same, Q5.get, Q5.same, Q5.ld, ft_eq, aggB, dq, boxE, buildE, lsE])))
   ((first | refine retA.ret (by rfl) ?_ | refine retA.normal (by rfl) ?_); simp (disch := omega) only [push_cast, ↓reduceIte, reduceCtorEq, Nat.reduceAdd, Nat.reduceMul, Nat.reduceLeDiff, Nat.reduceLT, Nat.reduceSub, Int.reduceNe, Int.reduceEq, Int.reduceLE, Int.reduceLT, Int.reduceToNat, A5.ld, Q5.ld, buildE])
   exact ⟨F5, MRn.nothing hgo'⟩
 ·subst hk
  have hL : leastP 2 = 23 := rfl
  have hap : apart1 Try.prog 3 [.int .i64 0, .int .i64 29, .int .i64 23, .int .i64 21, .int .i64 19] 2 = some (.int .i64 23) := by kernel_rfl
  rw [hL] at hhd
  by_cases c5 : N < 23
  ·have d5 : decide (N < 23) = true := decide_eq_true c5
   have e : readM b = (MV.zero, 0, (1, 2)) := hrd (1, 2) (by rw [hhd, if_pos (.inl c5)]) (by simp)
   have Qx := Q0.set (.box [.int .i64 1, .int .i64 2])
   have Ax := A0.keep (Fr.set M1 (s + 1) (.box [.int .i64 1, .int .i64 2])) (by simp)
   have dq : decide (((1 : Int), (2 : Int)) = (0, 0)) = false := rfl
   (repeat (first | refine st ?_ | refine σa ?_ | refine d18_Msc ?_ | ((first | refine a18_Msc ?_ | refine σb ?_ | refine σc ?_); simp (disch := omega) only [push_cast, ↓reduceIte, reduceCtorEq, ν1, ν2, ν3, ν4, ν5, ζ1, ζ2, ζ3, ζ4, ζ5, wk, d1, d2, d3, d4, d5, hap, Q0.get, Q0.same, Qx.ld, ft_eq, aggB, dq, List.drop_nil, List.append_nil, Bool.not_true, Bool.not_false, boxE, buildE, lsE])))
   exact scopeA.goto rfl 0 (fun k hk => by cases hk) ⟨rfl, .inl ⟨rfl, MV.zero, .slice none 0 0, .slice none 0 0, .slice none 0 0, .slice none 0 0, .slice none 0 0, 1, 2, rfl, rfl, Ax, Qx, (F0.trans (Fr.set M1 (s + 1) _)).cut (fun c hc hlt => by simp at hc; omega), e⟩⟩
  have d5 : decide (N < 23) = false := decide_eq_false c5
  have eh : headF b = (0, 0) := by rw [hhd, if_neg (by omega)]
  have hgo' := hgo eh
  by_cases c7 : (b.length : Int) < N
  ·have d7 : decide ((b.length : Int) < N) = true := decide_eq_true c7
   rw [if_pos c7] at hgo'
   have dq : decide (((0 : Int), (0 : Int)) = (0, 0)) = true := rfl
   (repeat (first | refine st ?_ | refine σa ?_ | refine d18_Msc ?_ | ((first | refine a18_Msc ?_ | refine σb ?_ | refine σc ?_); simp (disch := omega) only [push_cast, ↓reduceIte, reduceCtorEq, ν1, ν2, ν3, ν4, ν5, ζ1, ζ2, ζ3, ζ4, ζ5, wk, d1, d2, d3, d4, d5, hap, sv, nv, d7, A0.get, A0.same, Q0.get, Q0.same, Q0.ld, ft_eq, aggB, dq, List.drop_nil, List.append_nil, Bool.not_true, Bool.not_false, boxE, buildE, lsE])))
   ((first | refine retA.ret (by rfl) ?_ | refine retA.normal (by rfl) ?_); simp (disch := omega) only [push_cast, ↓reduceIte, reduceCtorEq, Nat.reduceAdd, Nat.reduceMul, Nat.reduceLeDiff, Nat.reduceLT, Nat.reduceSub, Int.reduceNe, Int.reduceEq, Int.reduceLE, Int.reduceLT, Int.reduceToNat, A0.ld, Q0.ld, buildE])
   exact ⟨F0, MRn.nothing hgo'⟩
  have d7 : decide ((b.length : Int) < N) = false := decide_eq_false c7
  rw [if_neg c7] at hgo'
  obtain ⟨w19, h19, p19⟩ := body19 (by omega) (by omega)
  have dq0 : decide (((0 : Int), (0 : Int)) = (0, 0)) = true := rfl
  (repeat (first | refine st ?_ | refine σa ?_ | refine d18_Msc ?_ | ((first | refine a18_Msc ?_ | refine σb ?_ | refine σc ?_); simp (disch := omega) only [push_cast, ↓reduceIte, reduceCtorEq, ν1, ν2, ν3, ν4, ν5, ζ1, ζ2, ζ3, ζ4, ζ5, wk, d1, d2, d3, d4, d5, hap, sv, nv, sz0, bl0, h19, d7, Option.map_none, Q0.ld, ft_eq, aggB, dq0, Bool.not_true, Bool.not_false, buildE, lsE])))
  have hbb : ∀ x ∈ (b.drop 19).take (nn - 19), 0 ≤ x ∧ x ≤ 255 := fun x hx => hb x (List.mem_of_mem_drop (List.mem_of_mem_take hx))
  have hbl : ((b.drop 19).take (nn - 19)).length = nn - 19 := by rw [List.length_take, List.length_drop]; omega
  refine (mupd_spec w19 _ M1 p19.sl hbb (by omega)).mono ?_
  rintro r M2 ⟨f2, m, ga, a, c, nw, d, rfl, ⟨i1, i2, i3, i4, i5⟩, hok⟩
  have A2 := A0.keep f2 (by simp)
  have Q2 := Q0.keep f2 (by simp)
  have F2 := F0.tr f2
  have l2 := f2.1
  have lM := F0.1
  have eB : bodyP 2 ((b.drop 19).take (nn - 19)) = updateP ((b.drop 19).take (nn - 19)) := rfl
  rw [eB] at hgo'
  generalize updateP ((b.drop 19).take (nn - 19)) = P at *
  obtain ⟨bm, q1, q2⟩ := P
  simp only at hok hgo' ⊢
  have g1 := isSl_cl i1
  have g2 := isSl_cl i2
  have g3 := isSl_cl i3
  have g4 := isSl_cl i4
  have g5 := isSl_cl i5
  have o1 := isSl_one i1
  have o2 := isSl_one i2
  have o3 := isSl_one i3
  have o4 := isSl_one i4
  have o5 := isSl_one i5
  simp only [Value.oneCell'] at o1 o2 o3 o4 o5
  have A3 := (A2.set (.box (mvL m ga a c nw d))).keep (Fr.set _ (s + 1) (.box [.int .i64 q1, .int .i64 q2])) (by simp)
  have Q3 := (Q2.keep (Fr.set M2 s (.box (mvL m ga a c nw d))) (by simp))
  have Q4 := Q3.set (.box [.int .i64 q1, .int .i64 q2])
  have F4 : Fr M _ [] := ((F2.trans (Fr.set M2 s (.box (mvL m ga a c nw d)))).trans (Fr.set _ (s + 1) (.box [.int .i64 q1, .int .i64 q2]))).cut (fun c hc hlt => by simp at hc; omega)
  unfold mvL at A3 Q3 Q4 F4
  unfold mvL
  by_cases cf : q1 = 0 ∧ q2 = 0
  ·have dq : decide (q1 = 0 ∧ q2 = 0) = true := decide_eq_true cf
   obtain ⟨rfl, rfl⟩ := cf
   obtain ⟨rfl, hin, hblk⟩ := hok rfl
   rw [if_pos rfl] at hgo'
   (repeat (first | refine st ?_ | refine σa ?_ | refine d18_Msc ?_ | ((first | refine a18_Msc ?_ | refine σb ?_ | refine σc ?_); simp (disch := omega) only [push_cast, ↓reduceIte, reduceCtorEq, ν1, ν2, ν3, ν4, ν5, ζ1, ζ2, ζ3, ζ4, ζ5, A2.get, A2.same, Q3.get, g1, g2, g3, g4, g5, o1, o2, o3, o4, o5, List.drop_nil, List.append_nil, Bool.not_true, Bool.not_false, A3.ld, Q4.ld, A3.get, Q4.get, A3.same, Q4.same, ft_eq, aggB, dq, boxE, buildE, lsE])))
   ((first | refine retA.ret (by rfl) ?_ | refine retA.normal (by rfl) ?_); simp (disch := omega) only [push_cast, ↓reduceIte, reduceCtorEq, Nat.reduceAdd, Nat.reduceMul, Nat.reduceLeDiff, Nat.reduceLT, Nat.reduceSub, Int.reduceNe, Int.reduceEq, Int.reduceLE, Int.reduceLT, Int.reduceToNat, A3.ld, Q4.ld, g1, g2, g3, g4, g5, o1, o2, o3, o4, o5, buildE])
   refine ⟨F4, ga, a, c, nw, d, by rw [hgo']; rfl, ⟨i1, i2, i3, i4, i5⟩, ?_, fun x hx => by have := hblk x hx; omega⟩
   rw [hgo']
   have z1 := A0.lt
   have z2 := Q0.lt
   exact (hin.keepX (Fr.set _ s _) (fun x hx => by have := hblk x hx; simp; omega)).keepX (Fr.set _ (s + 1) _) (fun x hx => by have := hblk x hx; simp; omega)
  ·have dq : decide (q1 = 0 ∧ q2 = 0) = false := decide_eq_false cf
   rw [if_neg (fun e => cf (by cases e; exact ⟨rfl, rfl⟩))] at hgo'
   have A5 := (A3.set (.box (mv0 0 0 0 0)))
   have Q5 := Q4.keep (Fr.set _ s (.box (mv0 0 0 0 0))) (by simp)
   have F5 := (F4.trans (Fr.set _ s (.box (mv0 0 0 0 0)))).cut (Y := []) (fun c hc hlt => by simp at hc; omega)
   unfold mv0 at A5 Q5 F5
   (repeat (first | refine st ?_ | refine σa ?_ | refine d18_Msc ?_ | ((first | refine a18_Msc ?_ | refine σb ?_ | refine σc ?_); simp (disch := omega) only [push_cast, ↓reduceIte, reduceCtorEq, ν1, ν2, ν3, ν4, ν5, ζ1, ζ2, ζ3, ζ4, ζ5, A2.get, A2.same, Q3.get, Q3.same, g1, g2, g3, g4, g5, o1, o2, o3, o4, o5, List.drop_nil, List.append_nil, Bool.not_true, Bool.not_false, A3.ld, Q4.ld, A3.get, Q4.get, A3.same, Q4.same, Q5.get, Q5.same, Q5.ld, ft_eq, aggB, dq, boxE, buildE, lsE])))
   ((first | refine retA.ret (by rfl) ?_ | refine retA.normal (by rfl) ?_); simp (disch := omega) only [push_cast, ↓reduceIte, reduceCtorEq, Nat.reduceAdd, Nat.reduceMul, Nat.reduceLeDiff, Nat.reduceLT, Nat.reduceSub, Int.reduceNe, Int.reduceEq, Int.reduceLE, Int.reduceLT, Int.reduceToNat, A5.ld, Q5.ld, buildE])
   exact ⟨F5, MRn.nothing hgo'⟩
 ·subst hk
  have hL : leastP 3 = 21 := rfl
  have hap : apart1 Try.prog 3 [.int .i64 0, .int .i64 29, .int .i64 23, .int .i64 21, .int .i64 19] 3 = some (.int .i64 21) := by kernel_rfl
  rw [hL] at hhd
  by_cases c5 : N < 21
  ·have d5 : decide (N < 21) = true := decide_eq_true c5
   have e : readM b = (MV.zero, 0, (1, 2)) := hrd (1, 2) (by rw [hhd, if_pos (.inl c5)]) (by simp)
   have Qx := Q0.set (.box [.int .i64 1, .int .i64 2])
   have Ax := A0.keep (Fr.set M1 (s + 1) (.box [.int .i64 1, .int .i64 2])) (by simp)
   have dq : decide (((1 : Int), (2 : Int)) = (0, 0)) = false := rfl
   (repeat (first | refine st ?_ | refine σa ?_ | refine d18_Msc ?_ | ((first | refine a18_Msc ?_ | refine σb ?_ | refine σc ?_); simp (disch := omega) only [push_cast, ↓reduceIte, reduceCtorEq, ν1, ν2, ν3, ν4, ν5, ζ1, ζ2, ζ3, ζ4, ζ5, wk, d1, d2, d3, d4, d5, hap, Q0.get, Q0.same, Qx.ld, ft_eq, aggB, dq, List.drop_nil, List.append_nil, Bool.not_true, Bool.not_false, boxE, buildE, lsE])))
   exact scopeA.goto rfl 0 (fun k hk => by cases hk) ⟨rfl, .inl ⟨rfl, MV.zero, .slice none 0 0, .slice none 0 0, .slice none 0 0, .slice none 0 0, .slice none 0 0, 1, 2, rfl, rfl, Ax, Qx, (F0.trans (Fr.set M1 (s + 1) _)).cut (fun c hc hlt => by simp at hc; omega), e⟩⟩
  have d5 : decide (N < 21) = false := decide_eq_false c5
  have eh : headF b = (0, 0) := by rw [hhd, if_neg (by omega)]
  have hgo' := hgo eh
  by_cases c7 : (b.length : Int) < N
  ·have d7 : decide ((b.length : Int) < N) = true := decide_eq_true c7
   rw [if_pos c7] at hgo'
   have dq : decide (((0 : Int), (0 : Int)) = (0, 0)) = true := rfl
   (repeat (first | refine st ?_ | refine σa ?_ | refine d18_Msc ?_ | ((first | refine a18_Msc ?_ | refine σb ?_ | refine σc ?_); simp (disch := omega) only [push_cast, ↓reduceIte, reduceCtorEq, ν1, ν2, ν3, ν4, ν5, ζ1, ζ2, ζ3, ζ4, ζ5, wk, d1, d2, d3, d4, d5, hap, sv, nv, d7, A0.get, A0.same, Q0.get, Q0.same, Q0.ld, ft_eq, aggB, dq, List.drop_nil, List.append_nil, Bool.not_true, Bool.not_false, boxE, buildE, lsE])))
   ((first | refine retA.ret (by rfl) ?_ | refine retA.normal (by rfl) ?_); simp (disch := omega) only [push_cast, ↓reduceIte, reduceCtorEq, Nat.reduceAdd, Nat.reduceMul, Nat.reduceLeDiff, Nat.reduceLT, Nat.reduceSub, Int.reduceNe, Int.reduceEq, Int.reduceLE, Int.reduceLT, Int.reduceToNat, A0.ld, Q0.ld, buildE])
   exact ⟨F0, MRn.nothing hgo'⟩
  have d7 : decide ((b.length : Int) < N) = false := decide_eq_false c7
  rw [if_neg c7] at hgo'
  obtain ⟨w19, h19, p19⟩ := body19 (by omega) (by omega)
  have dq0 : decide (((0 : Int), (0 : Int)) = (0, 0)) = true := rfl
  (repeat (first | refine st ?_ | refine σa ?_ | refine d18_Msc ?_ | ((first | refine a18_Msc ?_ | refine σb ?_ | refine σc ?_); simp (disch := omega) only [push_cast, ↓reduceIte, reduceCtorEq, ν1, ν2, ν3, ν4, ν5, ζ1, ζ2, ζ3, ζ4, ζ5, wk, d1, d2, d3, d4, d5, hap, sv, nv, sz0, bl0, h19, d7, Option.map_none, Q0.ld, ft_eq, aggB, dq0, Bool.not_true, Bool.not_false, buildE, lsE])))
  have hbb : ∀ x ∈ (b.drop 19).take (nn - 19), 0 ≤ x ∧ x ≤ 255 := fun x hx => hb x (List.mem_of_mem_drop (List.mem_of_mem_take hx))
  have hbl : ((b.drop 19).take (nn - 19)).length = nn - 19 := by rw [List.length_take, List.length_drop]; omega
  generalize (b.drop 19).take (nn - 19) = B at *
  have s19 := p19.sl.isSl
  have n19 := p19.sl.lnI
  have z19 := p19.sl.sz
  have bl19 := eq_true p19.sl.blks
  have ld0 := p19.sl.ldN (P := Try.prog) (ty := 5) (i := 0) (by kernel_rfl) (by omega)
  have ld1 := p19.sl.ldN (P := Try.prog) (ty := 5) (i := 1) (by kernel_rfl) (by omega)
  obtain ⟨w2, h2', p2⟩ := p19.sl.pcFrom 2 (by omega)
  have h2 : aslice w19 1 (some (.int .i64 2)) none none = some w2 := h2'
  have lt0 : (0 : Int) < (B.length : Int) := by omega
  have lt1 : (1 : Int) < (B.length : Int) := by omega
  have y0 := getD_byte hbb 0
  have y1 := getD_byte hbb 1
  have w0 : IntKind.i64.wrap (B.getD 0 0) = B.getD 0 0 := by have a := y0.1; have b := y0.2; exact w_i64 (by omega) (by omega)
  have w1 : IntKind.i64.wrap (B.getD 1 0) = B.getD 1 0 := by have a := y1.1; have b := y1.2; exact w_i64 (by omega) (by omega)
  simp only [Nat.add_zero] at ld0
  (repeat (first | refine st ?_ | refine σa ?_ | refine d18_Msc ?_ | ((first | refine a18_Msc ?_ | refine σb ?_ | refine σc ?_); simp (disch := omega) only [push_cast, ↓reduceIte, reduceCtorEq, ν1, ν2, ν3, ν4, ν5, ζ1, ζ2, ζ3, ζ4, ζ5, s19, n19, z19, bl19, ld0, ld1, lt0, lt1, w0, w1, h2, Option.map_none, buildE, lsE])))
  refine (clone_spec w2 _ M1 p2.sl (by rw [List.length_drop]; omega)).mono ?_
  rintro wd M2 ⟨f2, nwd⟩
  have A2 := A0.keep f2 (by simp)
  have Q2 := Q0.keep f2 (by simp)
  have F2 := F0.tr f2
  have lM := F0.1
  have g5 := isSl_cl nwd.1.sl.isSl
  have o5 := isSl_one nwd.1.sl.isSl
  simp only [Value.oneCell'] at o5
  refine ⟨f2, ?_⟩
  have A3 := A2.set (.box (mv3 (B.getD 0 0) (B.getD 1 0) wd))
  have Q4 := Q2.keep (Fr.set M2 s (.box (mv3 (B.getD 0 0) (B.getD 1 0) wd))) (by simp)
  have F4 : Fr M _ [] := (F2.trans (Fr.set M2 s (.box (mv3 (B.getD 0 0) (B.getD 1 0) wd)))).cut (fun c hc hlt => by simp at hc; omega)
  have N4 := nwd.1.sl.keep (Fr.set M2 s (.box (mv3 (B.getD 0 0) (B.getD 1 0) wd))) (fun c hc => by have := nwd.blk c hc; simp; have := A0.lt; omega)
  unfold mv3 at A3 Q4 F4 N4
  (repeat (first | refine st ?_ | refine σa ?_ | refine d18_Msc ?_ | ((first | refine a18_Msc ?_ | refine σb ?_ | refine σc ?_); simp (disch := omega) only [push_cast, ↓reduceIte, reduceCtorEq, ν1, ν2, ν3, ν4, ν5, ζ1, ζ2, ζ3, ζ4, ζ5, A2.get, A2.same, g5, o5, List.drop_nil, List.append_nil, Bool.not_true, Bool.not_false, A3.ld, Q4.ld, A3.get, Q4.get, A3.same, Q4.same, ft_eq, aggB, dq0, boxE, buildE, lsE])))
  ((first | refine retA.ret (by rfl) ?_ | refine retA.normal (by rfl) ?_); simp (disch := omega) only [push_cast, ↓reduceIte, reduceCtorEq, Nat.reduceAdd, Nat.reduceMul, Nat.reduceLeDiff, Nat.reduceLT, Nat.reduceSub, Int.reduceNe, Int.reduceEq, Int.reduceLE, Int.reduceLT, Int.reduceToNat, A3.ld, Q4.ld, g5, o5, buildE])
  have hgo'' : readM b = ({ MV.zero with kind := 3, code := B.getD 0 0, sub := B.getD 1 0, data := B.drop 2 }, N, (0, 0)) := by rw [hgo']; rfl
  refine ⟨F4, .slice none 0 0, .slice none 0 0, .slice none 0 0, .slice none 0 0, wd, by rw [hgo'']; rfl, ⟨rfl, rfl, rfl, rfl, nwd.1.sl.isSl⟩, ?_, ?_⟩
  ·rw [hgo'']; exact ⟨Sl.nil _ (by omega), Sl.nil _ (by omega), Sl.nil _ (by omega), Sl.nil _ (by omega), N4⟩
  ·intro x hx
   have : x ∈ blkOf wd := by simpa [blkOf] using hx
   have := nwd.blk x this
   omega
 ·subst hk
  have hL : leastP 4 = 19 := rfl
  have hap : apart1 Try.prog 3 [.int .i64 0, .int .i64 29, .int .i64 23, .int .i64 21, .int .i64 19] 4 = some (.int .i64 19) := by kernel_rfl
  rw [hL] at hhd
  by_cases c5 : N < 19
  ·have d5 : decide (N < 19) = true := decide_eq_true c5
   exact absurd c5 c1
  have d5 : decide (N < 19) = false := decide_eq_false c5
  by_cases c6 : N > 19
  ·have d6 : decide (N > 19) = true := decide_eq_true c6
   have e : readM b = (MV.zero, 0, (1, 2)) := hrd (1, 2) (by rw [hhd, if_pos (.inr ⟨rfl, c6⟩)]) (by simp)
   have Qx := Q0.set (.box [.int .i64 1, .int .i64 2])
   have Ax := A0.keep (Fr.set M1 (s + 1) (.box [.int .i64 1, .int .i64 2])) (by simp)
   have dq : decide (((1 : Int), (2 : Int)) = (0, 0)) = false := rfl
   (repeat (first | refine st ?_ | refine σa ?_ | refine d18_Msc ?_ | ((first | refine a18_Msc ?_ | refine σb ?_ | refine σc ?_); simp (disch := omega) only [push_cast, ↓reduceIte, reduceCtorEq, ν1, ν2, ν3, ν4, ν5, ζ1, ζ2, ζ3, ζ4, ζ5, wk, d1, d2, d3, d4, d5, d6, hap, Q0.get, Q0.same, Qx.ld, ft_eq, aggB, dq, List.drop_nil, List.append_nil, Bool.not_true, Bool.not_false, boxE, buildE, lsE])))
   exact scopeA.goto rfl 0 (fun k hk => by cases hk) ⟨rfl, .inl ⟨rfl, MV.zero, .slice none 0 0, .slice none 0 0, .slice none 0 0, .slice none 0 0, .slice none 0 0, 1, 2, rfl, rfl, Ax, Qx, (F0.trans (Fr.set M1 (s + 1) _)).cut (fun c hc hlt => by simp at hc; omega), e⟩⟩
  have d6 : decide (N > 19) = false := decide_eq_false c6
  have eh : headF b = (0, 0) := by rw [hhd, if_neg (by omega)]
  have hgo' := hgo eh
  by_cases c7 : (b.length : Int) < N
  ·have d7 : decide ((b.length : Int) < N) = true := decide_eq_true c7
   rw [if_pos c7] at hgo'
   have dq : decide (((0 : Int), (0 : Int)) = (0, 0)) = true := rfl
   (repeat (first | refine st ?_ | refine σa ?_ | refine d18_Msc ?_ | ((first | refine a18_Msc ?_ | refine σb ?_ | refine σc ?_); simp (disch := omega) only [push_cast, ↓reduceIte, reduceCtorEq, ν1, ν2, ν3, ν4, ν5, ζ1, ζ2, ζ3, ζ4, ζ5, wk, d1, d2, d3, d4, d5, d6, hap, sv, nv, d7, A0.get, A0.same, Q0.get, Q0.same, Q0.ld, ft_eq, aggB, dq, List.drop_nil, List.append_nil, Bool.not_true, Bool.not_false, boxE, buildE, lsE])))
   ((first | refine retA.ret (by rfl) ?_ | refine retA.normal (by rfl) ?_); simp (disch := omega) only [push_cast, ↓reduceIte, reduceCtorEq, Nat.reduceAdd, Nat.reduceMul, Nat.reduceLeDiff, Nat.reduceLT, Nat.reduceSub, Int.reduceNe, Int.reduceEq, Int.reduceLE, Int.reduceLT, Int.reduceToNat, A0.ld, Q0.ld, buildE])
   exact ⟨F0, MRn.nothing hgo'⟩
  have d7 : decide ((b.length : Int) < N) = false := decide_eq_false c7
  rw [if_neg c7] at hgo'
  obtain ⟨w19, h19, p19⟩ := body19 (by omega) (by omega)
  have dq0 : decide (((0 : Int), (0 : Int)) = (0, 0)) = true := rfl
  have A3 := A0.set (.box [.int .i64 4, .int .u32 0, .int .u32 0, .int .i64 0, .slice none 0 0, .int .i64 0, .slice none 0 0, .int .u32 0, .int .u32 0, .int .u32 0, .bool false, .bool false, .slice none 0 0, .slice none 0 0, .int .i64 0, .int .i64 0, .slice none 0 0])
  have Q4 := Q0.keep (Fr.set M1 s (.box [.int .i64 4, .int .u32 0, .int .u32 0, .int .i64 0, .slice none 0 0, .int .i64 0, .slice none 0 0, .int .u32 0, .int .u32 0, .int .u32 0, .bool false, .bool false, .slice none 0 0, .slice none 0 0, .int .i64 0, .int .i64 0, .slice none 0 0])) (by simp)
  have F4 : Fr M _ [] := (F0.trans (Fr.set M1 s (.box [.int .i64 4, .int .u32 0, .int .u32 0, .int .i64 0, .slice none 0 0, .int .i64 0, .slice none 0 0, .int .u32 0, .int .u32 0, .int .u32 0, .bool false, .bool false, .slice none 0 0, .slice none 0 0, .int .i64 0, .int .i64 0, .slice none 0 0]))).cut (fun c hc hlt => by simp at hc; omega)
  (repeat (first | refine st ?_ | refine σa ?_ | refine d18_Msc ?_ | ((first | refine a18_Msc ?_ | refine σb ?_ | refine σc ?_); simp (disch := omega) only [push_cast, ↓reduceIte, reduceCtorEq, ν1, ν2, ν3, ν4, ν5, ζ1, ζ2, ζ3, ζ4, ζ5, wk, d1, d2, d3, d4, d5, d6, hap, sv, nv, sz0, bl0, h19, d7, Option.map_none, Q0.ld, A0.get, A0.same, List.drop_nil, List.append_nil, Bool.not_true, Bool.not_false, A3.ld, Q4.ld, A3.get, Q4.get, A3.same, Q4.same, ft_eq, aggB, dq0, boxE, buildE, lsE])))
  ((first | refine retA.ret (by rfl) ?_ | refine retA.normal (by rfl) ?_); simp (disch := omega) only [push_cast, ↓reduceIte, reduceCtorEq, Nat.reduceAdd, Nat.reduceMul, Nat.reduceLeDiff, Nat.reduceLT, Nat.reduceSub, Int.reduceNe, Int.reduceEq, Int.reduceLE, Int.reduceLT, Int.reduceToNat, A3.ld, Q4.ld, buildE])
  have hgo'' : readM b = ({ MV.zero with kind := 4 }, N, (0, 0)) := by rw [hgo']; rfl
  exact ⟨F4, .slice none 0 0, .slice none 0 0, .slice none 0 0, .slice none 0 0, .slice none 0 0, by rw [hgo'']; rfl, ⟨rfl, rfl, rfl, rfl, rfl⟩, by rw [hgo'']; exact ⟨Sl.nil _ (by omega), Sl.nil _ (by omega), Sl.nil _ (by omega), Sl.nil _ (by omega), Sl.nil _ (by omega)⟩, by simp [blkOf]⟩
end Go.Proofs.Ytbdejnnbpdgjlaa.Ax
