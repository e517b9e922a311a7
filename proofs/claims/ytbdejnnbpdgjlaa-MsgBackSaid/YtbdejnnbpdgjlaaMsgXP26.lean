/- Contracts of functions over the abstract machine. No conditions: lemmas alone. -/
import Derived.Test.YtbdejnnbpdgjlaaMsgXLibD
import Derived.Test.YtbdejnnbpdgjlaaMsgXP0
import Derived.Test.YtbdejnnbpdgjlaaMsgXP25
namespace Go.Proofs.Ytbdejnnbpdgjlaa.Ax
open Go Go.RowKit
open Nat renaming reduceAdd → ν1, reduceMul → ν2, reduceLeDiff → ν3, reduceLT → ν4, reduceSub → ν5
open Int renaming reduceNe → ζ1, reduceEq → ζ2, reduceLE → ζ3, reduceLT → ζ4, reduceToNat → ζ5
set_option linter.unusedVariables false
set_option linter.unusedSimpArgs false
set_option maxRecDepth 100000
set_option maxHeartbeats 20000000
attribute [local irreducible] thenA blockA scopeA retA AL AW AD ADL AH clrK CallA apure aload bload appK ptrK fnK ares szOk planOk okOps
theorem d6_Mw4 {g n : Prop} (k : n) (h : n → g := by first | exact AW.dr (id := 10) (by rfl) [0, 1, 2, 3, 4, 5, 6, 7, 8, 9, 10, 12, 11, 13, 14, 15, 16] (by kernel_rfl) (by kernel_rfl)) : g := h k
theorem put_err {m : MV} (h : (putM m).2 ≠ 0) : (putM m).1 = [] := by
  unfold putM at *
  split
  · rfl
  split
  · rfl
  split
  · rfl
  · rename_i h1 h2 h3
    rw [if_neg h1, if_neg h2, if_neg h3] at h
    exact absurd rfl h
theorem msgBack_in (M : Mem) (v0 v1 v2 : Value) (h0 : In59 M v0) (h1 : In39 M v1) (h2 : In60 M v2) : CallA Try.prog 6 [v0, v1, v2] M fun r _ => r = .bool true := by
  obtain ⟨m, g, a, c, nn, d, rfl, hin, gg⟩ := raw_in h0
  obtain ⟨w, ys, e, hc, hy, hw⟩ := h1
  cases e
  obtain ⟨cut, hcut, e⟩ := h2
  cases e
  have hcut := wf_u16 hcut
  have hc := fun x h => wf_u8 (hc x h)
  have hi : isSl g = true ∧ isSl a = true ∧ isSl c = true ∧ isSl nn = true ∧ isSl d = true := ⟨hin.gone.isSl, hin.path.isSl, hin.comms.isSl, hin.new.isSl, hin.data.isSl⟩
  have o1 := mvL_one (m := m) hi
  (refine CallA.of_body Try.func6 rfl (by rfl) ?_; simp only [Try.ntmps6, List.length_cons, List.length_nil, List.replicate, List.cons_append, List.nil_append, Nat.reduceSub, Nat.reduceAdd])
  (repeat (first | refine st ?_ | refine σa ?_ | refine d6_Mw4 ?_ | ((first | refine σb ?_ | refine σc ?_); simp (disch := omega) only [push_cast, ↓reduceIte, reduceCtorEq, ν1, ν2, ν3, ν4, ν5, ζ1, ζ2, ζ3, ζ4, ζ5])))
  have P0 := Fr.push M (.box (mvL m g a c nn d))
  have B0 := At.push M (.box (mvL m g a c nn d))
  refine (alive25_spec _).mono ?_
  rintro r M1 ⟨F1, rfl⟩
  have B1 := B0.keep F1 (by simp)
  have in1 := (hin.keep P0 (by simp)).keep F1 (by simp)
  have hw1 := (hw.keep P0 (by simp)).keep F1 (by simp)
  have sw := hw1.isSl
  have nw := hw1.lnI
  (repeat (first | refine st ?_ | refine σa ?_ | refine d6_Mw4 ?_ | ((first | refine σb ?_ | refine σc ?_); simp (disch := omega) only [push_cast, ↓reduceIte, reduceCtorEq, ν1, ν2, ν3, ν4, ν5, ζ1, ζ2, ζ3, ζ4, ζ5, B1.ld, mvL_len, mvL_take, o1, List.drop_nil, List.append_nil, Bool.not_true, Bool.not_false, memE, boxE, boxE, buildE])))
  have PA := Fr.push M1 (.box (mvL m g a c nn d))
  have A2 := At.push M1 (.box (mvL m g a c nn d))
  have in2 := in1.keep PA (by simp)
  have hw2 := hw1.keep PA (by simp)
  generalize M1 ++ [Blk.box (mvL m g a c nn d)] = M2 at *
  obtain ⟨s, hs⟩ : ∃ s, s = M1.length := ⟨_, rfl⟩
  rw [← hs] at A2 ⊢
  refine (mvgreat_spec m g a c nn d M2 in2).mono ?_
  rintro r M3 ⟨f3, bg, rfl, hbg⟩
  have A3 := A2.keep f3 (by simp)
  have in3 := in2.keep f3 (by simp)
  have hw3 := hw2.keep f3 (by simp)
  cases bg with
  | true =>
    (repeat (first | refine st ?_ | refine σa ?_ | refine d6_Mw4 ?_ | ((first | refine σb ?_ | refine σc ?_); simp (disch := omega) only [push_cast, ↓reduceIte, reduceCtorEq, ν1, ν2, ν3, ν4, ν5, ζ1, ζ2, ζ3, ζ4, ζ5])))
    ((first | refine retA.ret (by rfl) ?_ | refine retA.normal (by rfl) ?_); simp (disch := omega) only [push_cast, ↓reduceIte, reduceCtorEq, Nat.reduceAdd, Nat.reduceMul, Nat.reduceLeDiff, Nat.reduceLT, Nat.reduceSub, Int.reduceNe, Int.reduceEq, Int.reduceLE, Int.reduceLT, Int.reduceToNat])
  | false =>
  have hng : ¬ greatM m := fun h => by have := hbg.2 h; cases this
  have hsz : sizeM m := by
    unfold greatM at hng
    unfold sizeM
    omega
  by_cases c1 : ys.length ≤ 5000
  rotate_left
  · have d1 : decide ((ys.length : Int) > 5000) = true := decide_eq_true (by omega)
    (repeat (first | refine st ?_ | refine σa ?_ | refine d6_Mw4 ?_ | ((first | refine σb ?_ | refine σc ?_); simp (disch := omega) only [push_cast, ↓reduceIte, reduceCtorEq, ν1, ν2, ν3, ν4, ν5, ζ1, ζ2, ζ3, ζ4, ζ5, sw, nw, d1])))
    ((first | refine retA.ret (by rfl) ?_ | refine retA.normal (by rfl) ?_); simp (disch := omega) only [push_cast, ↓reduceIte, reduceCtorEq, Nat.reduceAdd, Nat.reduceMul, Nat.reduceLeDiff, Nat.reduceLT, Nat.reduceSub, Int.reduceNe, Int.reduceEq, Int.reduceLE, Int.reduceLT, Int.reduceToNat])
  have d1 : decide ((ys.length : Int) > 5000) = false := decide_eq_false (by omega)
  (repeat (first | refine st ?_ | refine σa ?_ | refine d6_Mw4 ?_ | ((first | refine σb ?_ | refine σc ?_); simp (disch := omega) only [push_cast, ↓reduceIte, reduceCtorEq, ν1, ν2, ν3, ν4, ν5, ζ1, ζ2, ζ3, ζ4, ζ5, A3.ld, mvL_len, mvL_take, sw, nw, d1, Bool.not_true, Bool.not_false, buildE])))
  refine (mvto_spec m g a c nn d M3 hi).mono ?_
  rintro r M4 ⟨f4, rfl⟩
  have A4 := A3.keep f4 (by simp)
  have in4 := in3.keep f4 (by simp)
  have hw4 := hw3.keep f4 (by simp)
  obtain ⟨bs, e, hP⟩ : ∃ bs e, putM m = (bs, e) := ⟨_, _, rfl⟩
  (repeat (first | refine st ?_ | refine σa ?_ | refine d6_Mw4 ?_ | ((first | refine σb ?_ | refine σc ?_); simp (disch := omega) only [push_cast, ↓reduceIte, reduceCtorEq, ν1, ν2, ν3, ν4, ν5, ζ1, ζ2, ζ3, ζ4, ζ5])))
  refine mputK in4 gg hsz hP fun M5 u f5 n5 => ?_
  have A5 := A4.keep f5 (by simp)
  have in5 := in4.keep f5 (by simp)
  have hw5 := hw4.keep f5 (by simp)
  have su := n5.sl.isSl
  have nu := n5.sl.lnI
  by_cases ce : e = 0
  rotate_left
  · have he := put_err (m := m) (by rw [hP]; exact ce)
    rw [hP] at he
    simp only at he
    subst he
    have d0 : decide (e = 0) = false := decide_eq_false ce
    have dz : decide (((([] : List Int).length : Nat) : Int) = 0) = true := rfl
    (repeat (first | refine st ?_ | refine σa ?_ | refine d6_Mw4 ?_ | ((first | refine σb ?_ | refine σc ?_); simp (disch := omega) only [push_cast, ↓reduceIte, reduceCtorEq, ν1, ν2, ν3, ν4, ν5, ζ1, ζ2, ζ3, ζ4, ζ5, d0, su, nu, dz, Bool.not_true, Bool.not_false])))
    ((first | refine retA.ret (by rfl) ?_ | refine retA.normal (by rfl) ?_); simp (disch := omega) only [push_cast, ↓reduceIte, reduceCtorEq, Nat.reduceAdd, Nat.reduceMul, Nat.reduceLeDiff, Nat.reduceLT, Nat.reduceSub, Int.reduceNe, Int.reduceEq, Int.reduceLE, Int.reduceLT, Int.reduceToNat])
  subst ce
  have d0 : decide ((0 : Int) = 0) = true := rfl
  have hrp := readM_put (m := m) (by rw [hP]) gg ys
  have hlen := putM_len (m := m) (by rw [hP])
  have hbl := putM_bytes gg
  have hby := putM_byteL gg hP
  rw [hP] at hrp hbl hlen
  simp only at hrp hbl hlen
  (repeat (first | refine st ?_ | refine σa ?_ | refine d6_Mw4 ?_ | ((first | refine σb ?_ | refine σc ?_); simp (disch := omega) only [push_cast, ↓reduceIte, reduceCtorEq, ν1, ν2, ν3, ν4, ν5, ζ1, ζ2, ζ3, ζ4, ζ5, d0, Bool.not_true, Bool.not_false])))
  refine appB0 n5.sl (by omega) fun u1 M6 n6 f6 => ?_
  (repeat (first | refine st ?_ | refine σa ?_ | refine d6_Mw4 ?_ | ((first | refine σb ?_ | refine σc ?_); simp (disch := omega) only [push_cast, ↓reduceIte, reduceCtorEq, ν1, ν2, ν3, ν4, ν5, ζ1, ζ2, ζ3, ζ4, ζ5])))
  refine appB1 n6 f6 (hw5.keep f6 (by simp)) (by omega) fun u2 M7 n7 f7 => ?_
  (repeat (first | refine st ?_ | refine σa ?_ | refine d6_Mw4 ?_ | ((first | refine σb ?_ | refine σc ?_); simp (disch := omega) only [push_cast, ↓reduceIte, reduceCtorEq, ν1, ν2, ν3, ν4, ν5, ζ1, ζ2, ζ3, ζ4, ζ5])))
  have A7 := A5.keep f7 (by simp)
  have in7 := in5.keep f7 (by simp)
  have u7 := n5.sl.keep f7 (by simp)
  refine mreadK n7.sl (by rw [List.length_append]; omega) (fun x hx => by rcases List.mem_append.1 hx with h | h; exact hby x h; exact hc x h) hrp fun M8 g' a' c' n' d' f8 in8 o8 i8 _ => ?_
  have P8 := Fr.push2 M8 (.box (mvL (ownM m) g' a' c' n' d')) (.box [.int .i64 0, .int .i64 0])
  have A8 := (A7.keep f8 (by simp)).keep P8 (by simp)
  have in8' := in8.keep P8 (by simp)
  have inm8 := (in7.keep f8 (by simp)).keep P8 (by simp)
  have u8 := (u7.keep f8 (by simp)).keep P8 (by simp)
  have dq : decide ((0 : Int) = 0 ∧ (0 : Int) = 0) = true := rfl
  have dbs : decide ((bs.length : Int) = (bs.length : Int)) = true := decide_eq_true rfl
  (repeat (first | refine st ?_ | refine σa ?_ | refine d6_Mw4 ?_ | ((first | refine σb ?_ | refine σc ?_); simp (disch := omega) only [push_cast, ↓reduceIte, reduceCtorEq, ν1, ν2, ν3, ν4, ν5, ζ1, ζ2, ζ3, ζ4, ζ5, mvL_len, mvL_take, o8, mem2E, A8.ld, su, nu, dbs, ft_eq, aggB, dq, List.drop_nil, List.append_nil, Bool.not_true, Bool.not_false, memE, boxE, boxE, buildE])))
  refine (mvfrom_spec (ownM m) g' a' c' n' d' _ i8).mono ?_
  rintro r M9 ⟨f9, rfl⟩
  refine ⟨f9, ?_⟩
  have A9 := A8.keep f9 (by simp)
  (repeat (first | refine st ?_ | refine σa ?_ | refine d6_Mw4 ?_ | ((first | refine σb ?_ | refine σc ?_); simp (disch := omega) only [push_cast, ↓reduceIte, reduceCtorEq, ν1, ν2, ν3, ν4, ν5, ζ1, ζ2, ζ3, ζ4, ζ5, A9.ld, mvL_len, mvL_take, buildE])))
  refine (mvown_spec m g a c nn d _ (inm8.keep f9 (by simp))).mono ?_
  rintro r MA ⟨fA, g2', a2, c2', n2, d2', rfl, inA⟩
  refine ⟨fA, ?_⟩
  (repeat (first | refine st ?_ | refine σa ?_ | refine d6_Mw4 ?_ | ((first | refine σb ?_ | refine σc ?_); simp (disch := omega) only [push_cast, ↓reduceIte, reduceCtorEq, ν1, ν2, ν3, ν4, ν5, ζ1, ζ2, ζ3, ζ4, ζ5])))
  obtain ⟨z1, z2, z3, z4, z5⟩ : sizeM (ownM m) := ownM_size hsz
  refine (msame_eq (ownM m) g' a' c' n' d' g2' a2 c2' n2 d2' _ ((in8'.keep f9 (by simp)).keep fA (by simp)) inA (by omega) (by omega) (by omega) (by omega) (by omega)).mono ?_
  rintro r MB ⟨fB, rfl⟩
  refine ⟨fB, ?_⟩
  have uB := ((u8.keep f9 (by simp)).keep fA (by simp)).keep fB (by simp)
  obtain ⟨k, hk⟩ : ∃ k : Nat, (k : Int) = cut % (bs.length : Int) := ⟨(cut % (bs.length : Int)).toNat, by have := Int.emod_nonneg cut (b := (bs.length : Int)) (by omega); omega⟩
  have hk2 : k < bs.length := by have := Int.emod_lt_of_pos cut (b := (bs.length : Int)) (by omega); omega
  have hfr := readM_front (m := m) (by rw [hP]) (k := k) (by rw [hP]; exact hk2)
  rw [hP] at hfr
  simp only at hfr
  have wc : IntKind.i64.wrap cut = cut := w_i64 (by omega) (by omega)
  have htm : cut.tmod (bs.length : Int) = (k : Int) := by rw [hk]; exact Int.tmod_eq_emod_of_nonneg (by omega)
  have hb0 : (bs.length : Int) ≠ 0 := by omega
  obtain ⟨uk, hk', pk⟩ := uB.pcTo k (by omega)
  have szB := uB.sz
  (repeat (first | refine st ?_ | refine σa ?_ | refine d6_Mw4 ?_ | ((first | refine σb ?_ | refine σc ?_); simp (disch := omega) only [push_cast, ↓reduceIte, reduceCtorEq, ν1, ν2, ν3, ν4, ν5, ζ1, ζ2, ζ3, ζ4, ζ5, wc, htm, su, nu, hk', szB, hb0, Option.map_none, Option.map_some, Bool.not_true, Bool.not_false])))
  refine mreadK pk.sl (by rw [List.length_take]; omega) (fun x hx => hby x (List.mem_of_mem_take hx)) hfr fun MC gz az cz nz dz fC inC oC iC _ => ?_
  have PC := Fr.push2 MC (.box (mvL MV.zero gz az cz nz dz)) (.box [.int .i64 0, .int .i64 0])
  have inC' := inC.keep PC (by simp)
  (repeat (first | refine st ?_ | refine σa ?_ | refine d6_Mw4 ?_ | ((first | refine σb ?_ | refine σc ?_); simp (disch := omega) only [push_cast, ↓reduceIte, reduceCtorEq, ν1, ν2, ν3, ν4, ν5, ζ1, ζ2, ζ3, ζ4, ζ5, mvL_len, mvL_take, oC, mem2E, d0, ft_eq, aggB, dq, List.drop_nil, List.append_nil, Bool.not_true, Bool.not_false, memE, boxE, boxE, buildE])))
  refine (mvfrom_spec MV.zero gz az cz nz dz _ iC).mono ?_
  rintro r MD ⟨fD, rfl⟩
  (repeat (first | refine st ?_ | refine σa ?_ | refine d6_Mw4 ?_ | ((first | refine σb ?_ | refine σc ?_); simp (disch := omega) only [push_cast, ↓reduceIte, reduceCtorEq, ν1, ν2, ν3, ν4, ν5, ζ1, ζ2, ζ3, ζ4, ζ5, buildE])))
  refine (msame_eq MV.zero gz az cz nz dz (.slice none 0 0) (.slice none 0 0) (.slice none 0 0) (.slice none 0 0) (.slice none 0 0) _ (inC'.keep fD (by simp)) (MVin.nils _ ⟨rfl, rfl, rfl, rfl, rfl⟩) (by simp [MV.zero]) (by simp [MV.zero]) (by simp [MV.zero]) (by simp [MV.zero, AV.zero]) (by simp [MV.zero, AV.zero])).mono ?_
  rintro r ME ⟨fE, rfl⟩
  (repeat (first | refine st ?_ | refine σa ?_ | refine d6_Mw4 ?_ | ((first | refine σb ?_ | refine σc ?_); simp (disch := omega) only [push_cast, ↓reduceIte, reduceCtorEq, ν1, ν2, ν3, ν4, ν5, ζ1, ζ2, ζ3, ζ4, ζ5])))
  ((first | refine retA.ret (by rfl) ?_ | refine retA.normal (by rfl) ?_); simp (disch := omega) only [push_cast, ↓reduceIte, reduceCtorEq, Nat.reduceAdd, Nat.reduceMul, Nat.reduceLeDiff, Nat.reduceLT, Nat.reduceSub, Int.reduceNe, Int.reduceEq, Int.reduceLE, Int.reduceLT, Int.reduceToNat])

end Go.Proofs.Ytbdejnnbpdgjlaa.Ax
