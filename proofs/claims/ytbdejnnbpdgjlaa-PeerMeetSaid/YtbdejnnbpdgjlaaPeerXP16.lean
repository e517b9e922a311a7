/- Contracts of functions over the abstract machine. No conditions: lemmas alone. -/
import Derived.Test.YtbdejnnbpdgjlaaPeerXLibD
import Derived.Test.YtbdejnnbpdgjlaaPeerXP0
import Derived.Test.YtbdejnnbpdgjlaaPeerXP15
import Derived.Test.YtbdejnnbpdgjlaaPeerXP13
import Derived.Test.YtbdejnnbpdgjlaaPeerXP12
namespace Go.Proofs.Ytbdejnnbpdgjlaa.Ax
open Go Go.RowKit
open Nat renaming reduceAdd → ν1, reduceMul → ν2, reduceLeDiff → ν3, reduceLT → ν4, reduceSub → ν5
open Int renaming reduceNe → ζ1, reduceEq → ζ2, reduceLE → ζ3, reduceLT → ζ4, reduceToNat → ζ5
set_option linter.unusedVariables false
set_option linter.unusedSimpArgs false
set_option maxRecDepth 100000
set_option maxHeartbeats 20000000
attribute [local irreducible] thenA blockA scopeA retA AL AW AD ADL AH clrK CallA apure aload bload appK ptrK fnK ares szOk planOk okOps
theorem d103_Nl3 {g n : Prop} (k : n) (h : n → g := by first | exact AW.dr (id := 9) (by rfl) [0, 1, 2, 3, 4, 6, 7, 8, 5, 9, 10] (by kernel_rfl) (by kernel_rfl)) : g := h k
theorem a103_Nl3 {g n : Prop} (k : n) (h : n → g := by first | exact AL.cutW (ty := 212) (by kernel_rfl) rfl | exact AH.apC rfl rfl (by kernel_rfl) | exact AH.cutW (ty := 212) (by kernel_rfl) rfl) : g := h k
theorem k24 : (2 : Int) ^ min 24 IntKind.u32.bits = 16777216 := by decide
theorem k16 : (2 : Int) ^ min 16 IntKind.u32.bits = 65536 := by decide
theorem k8 : (2 : Int) ^ min 8 IntKind.u32.bits = 256 := by decide
theorem nlput_spec (v : Value) (l : List PX) (M : Mem) (hv : Sl M v 2 (pxs l)) (hg : ∀ p ∈ l, goodX p) (hl : l.length ≤ 1000000) : CallA Try.prog 103 [v] M fun r M' => Fr M M' [] ∧
  ((∃ bs w, nlPut l = some bs ∧ r = .tuple ⟨[w, .int .i64 0]⟩ ∧ New M M' w 1 (ints .u8 bs)) ∨ (nlPut l = none ∧ r = .tuple ⟨[.slice none 0 0, .int .i64 4]⟩)) := by
 have hs := hv.isSl
 have hn := hv.lnX
 have har : arLen Try.prog 212 = some 4 := by kernel_rfl
 (refine CallA.of_body Try.func103 rfl (by rfl) ?_; simp only [Try.ntmps103, List.length_cons, List.length_nil, List.replicate, List.cons_append, List.nil_append, Nat.reduceSub, Nat.reduceAdd])
 (repeat (first | refine st ?_ | refine σa ?_ | refine d103_Nl3 ?_ | ((first | refine a103_Nl3 ?_ | refine σb ?_ | refine σc ?_); simp (disch := omega) only [push_cast, ↓reduceIte, reduceCtorEq, ν1, ν2, ν3, ν4, ν5, ζ1, ζ2, ζ3, ζ4, ζ5, hs, hn])))
 refine AW.loopF [2, 3, 4, 6, 7, 8, 11, 12, 13, 14, 15, 16, 17, 18, 19, 20, 21, 22, 23, 24, 25, 26, 27, 28, 29, 30, 31, 32, 33, 34, 35, 36, 37, 38, 39, 40, 41, 42, 43, 44, 45] (fun n g M' => ∃ i : Nat, g 11 = .int .i64 i ∧ i + n = l.length ∧ ∃ o, g 4 = o ∧ ∃ bs, nlPut (l.take i) = some bs ∧ bs.length ≤ 5 * i ∧ New M M' o 1 (ints .u8 bs) ∧ Fr M M' []) l.length ?_ ?_
 ·exact ⟨0, rfl, by omega, _, rfl, [], rfl, by simp, New.nil M (by omega), Fr.refl M⟩
 rintro n g M1 ⟨i, h11, hi, o, h4, bs, hbs, hbl, hN, hF⟩
 simp (disch := omega) only [push_cast, ↓reduceIte, reduceCtorEq, Nat.reduceAdd, Nat.reduceMul, Nat.reduceLeDiff, Nat.reduceLT, Nat.reduceSub, Int.reduceNe, Int.reduceEq, Int.reduceLE, Int.reduceLT, Int.reduceToNat, h11, h4]
 (repeat (first | refine st ?_ | refine σa ?_ | refine d103_Nl3 ?_ | ((first | refine a103_Nl3 ?_ | refine σb ?_ | refine σc ?_); simp (disch := omega) only [push_cast, ↓reduceIte, reduceCtorEq, ν1, ν2, ν3, ν4, ν5, ζ1, ζ2, ζ3, ζ4, ζ5])))
 ((first | refine AL.gu rfl (fun hlt => ?_) (fun hlt => ?_) | refine AW.condS rfl rfl (fun hlt => ?_) (fun hlt => ?_)) <;> (try (have hlt' := hlt; simp only [Bool.not_eq_true', Bool.not_eq_false', Bool.not_true, Bool.not_false, decide_eq_true_eq, decide_eq_false_iff_not, Classical.not_not, Int.not_lt, Int.not_le, gt_iff_lt, ge_iff_le, beq_iff_eq] at hlt')))
 ·have hil : i < l.length := by omega
  have hld := (hv.keep hF (by simp)).ldX (i := i) hil
  obtain ⟨p, hp⟩ : ∃ p, p = l.getD i (0, 0) := ⟨_, rfl⟩
  have hpm : p ∈ l := by rw [hp, List.getD_eq_getElem?_getD, List.getElem?_eq_getElem hil]; exact List.getElem_mem hil
  have htk : l.take (i + 1) = l.take i ++ [p] := by rw [List.take_add_one, List.getElem?_eq_getElem hil, hp, List.getD_eq_getElem?_getD, List.getElem?_eq_getElem hil]; rfl
  have hgp := hg p hpm
  rw [← hp] at hld
  (repeat (first | refine st ?_ | refine σa ?_ | refine d103_Nl3 ?_ | ((first | refine a103_Nl3 ?_ | refine σb ?_ | refine σc ?_); simp (disch := omega) only [push_cast, ↓reduceIte, reduceCtorEq, ν1, ν2, ν3, ν4, ν5, ζ1, ζ2, ζ3, ζ4, ζ5, hs, hn, hld, Int.toNat_natCast, buildE, memE, boxE])))
  refine (size_spec p _ hgp).mono ?_
  rintro r M2 ⟨hF2, rfl⟩
  have b2 := (At.push M1 (.box [.int .u32 p.1, .int .i64 p.2])).keep hF2 (by simp)
  have F2 := (Fr.push M1 (.box [.int .u32 p.1, .int .i64 p.2])).tr hF2
  by_cases c : rightX p
  rotate_left
  ·have e0 : sizeX p = 0 := by unfold sizeX; rw [if_neg c]
   rw [e0]
   (repeat (first | refine st ?_ | refine σa ?_ | refine d103_Nl3 ?_ | ((first | refine a103_Nl3 ?_ | refine σb ?_ | refine σc ?_); simp (disch := omega) only [push_cast, ↓reduceIte, reduceCtorEq, ν1, ν2, ν3, ν4, ν5, ζ1, ζ2, ζ3, ζ4, ζ5])))
   ((first | refine retA.ret (by rfl) ?_ | refine retA.normal (by rfl) ?_); simp (disch := omega) only [push_cast, ↓reduceIte, reduceCtorEq, Nat.reduceAdd, Nat.reduceMul, Nat.reduceLeDiff, Nat.reduceLT, Nat.reduceSub, Int.reduceNe, Int.reduceEq, Int.reduceLE, Int.reduceLT, Int.reduceToNat])
   refine ⟨hF.tr F2, .inr ?_⟩
   have key : ∀ (l m : List PX) (q : PX), ¬ rightX q → nlPut (l ++ q :: m) = none := by
    intro l m q hq
    induction l with
    | nil => simp [nlPut, hq]
    | cons x l ih => simp only [List.cons_append, nlPut, ih]; split <;> rfl
   have e : l = l.take i ++ p :: l.drop (i + 1) := by
    have h1 := List.take_append_drop (i + 1) l
    rw [htk, List.append_assoc] at h1
    exact h1.symm
   rw [e]
   exact key _ _ _ c
  ·have hpl := rightX_len c
   have nb4 := nbytes_le hpl
   obtain ⟨nb, hnb⟩ : ∃ nb, nb = nbytes p.2 := ⟨_, rfl⟩
   obtain ⟨sz, hsz⟩ : ∃ sz, sz = 1 + nb := ⟨_, rfl⟩
   have e0 : sizeX p = sz := by unfold sizeX; rw [if_pos c, hsz, hnb]
   have g1 := hgp.1
   have g2 := hgp.2
   rw [← hnb] at nb4
   rw [e0]
   have d : decide ((sz : Int) = 0) = false := decide_eq_false (by omega)
   have q24 : p.1 / 16777216 % 256 = p.1 / 16777216 := by omega
   have hlr : (List.replicate 4 (Value.int .u8 0)).length = 4 := rfl
   have hdr : (List.replicate 4 (Value.int .u8 0)).drop 4 = [] := rfl
   have wl : IntKind.u8.wrap p.2 = p.2 := w_u8 (by omega) (by omega)
   have s1 : (sz : Int) - 1 = (nb : Int) := by omega
   have wi : IntKind.i64.wrap (nb : Int) = nb := w_i64 (by omega) (by omega)
   have b2r := b2.keep (Fr.push M2 (.box (List.replicate 4 (.int .u8 0)))) (by simp)
   have b2s := b2.keep (Fr.push M2 (.box [.int .u8 (p.1 / 16777216), .int .u8 (p.1 / 65536 % 256), .int .u8 (p.1 / 256 % 256), .int .u8 (p.1 % 256)])) (by simp)
   have b2t := b2s.keep (Fr.push _ (.row true 1 [.int .u8 p.2])) (by simp)
   (repeat (first | refine st ?_ | refine σa ?_ | refine d103_Nl3 ?_ | ((first | refine a103_Nl3 ?_ | refine σb ?_ | refine σc ?_); simp (disch := omega) only [push_cast, ↓reduceIte, reduceCtorEq, ν1, ν2, ν3, ν4, ν5, ζ1, ζ2, ζ3, ζ4, ζ5, d, b2.ld, b2r.ld, b2s.ld, b2t.ld, fdiv_in, k24, k16, k8, wm_u8, q24, hlr, hdr, wl, s1, har, wi, Blk.box.injEq, Option.map_none, Option.map_some, Int.toNat_natCast, buildE, memE, boxE])))
   have hob := hN.1.sl.blks
   have hM12 := F2.1
   have P1 := Fr.push M2 (.box [.int .u8 (p.1 / 16777216), .int .u8 (p.1 / 65536 % 256), .int .u8 (p.1 / 256 % 256), .int .u8 (p.1 % 256)])
   have A1 := At.push M2 (.box [.int .u8 (p.1 / 16777216), .int .u8 (p.1 / 65536 % 256), .int .u8 (p.1 / 256 % 256), .int .u8 (p.1 % 256)])
   have P2 := Fr.push (M2 ++ [.box [.int .u8 (p.1 / 16777216), .int .u8 (p.1 / 65536 % 256), .int .u8 (p.1 / 256 % 256), .int .u8 (p.1 % 256)]]) (.row true 1 [.int .u8 p.2])
   have r1 := New.row (M2 ++ [.box [.int .u8 (p.1 / 16777216), .int .u8 (p.1 / 65536 % 256), .int .u8 (p.1 / 256 % 256), .int .u8 (p.1 % 256)]]) (s := 1) (n := 1) (cs := ints .u8 [p.2]) (by omega) rfl rfl (by decide)
   have F3 : Fr M _ [] := ((hF.tr F2).tr P1).tr P2
   have hN3 : New M _ o 1 (ints .u8 bs) := hN.keep ((F2.tr P1).tr P2) (by simp)
   have A3 := A1.keep P2 (by simp)
   have hM2l : M2.length ∉ blkOf o := fun h => by have := hob _ h; omega
   refine appK.ints (P := Try.prog) (e := 5) (bt := 1) (z := .int .u8 0) (by kernel_rfl) (by kernel_rfl) (by kernel_rfl) (by kernel_rfl) (by decide) hN3.1 r1.sl (by simp; omega) ?_
   intro v1 M5 hN5 hF5
   have A5 := A3.keep hF5 hM2l
   have F5 := F3.new hN3 hF5
   have N5 := hN5.after F3
   refine ⟨⟨_, A5.get, by simp⟩, ?_⟩
   (repeat (first | refine st ?_ | refine σa ?_ | refine d103_Nl3 ?_ | ((first | refine a103_Nl3 ?_ | refine σb ?_ | refine σc ?_); simp (disch := omega) only [push_cast, ↓reduceIte, reduceCtorEq, ν1, ν2, ν3, ν4, ν5, ζ1, ζ2, ζ3, ζ4, ζ5])))
   have hsb := Sl.ofBox (j := 0) (r := nb) (n := 4) A5.get (by simp) (by omega) (by decide) (by simp [Value.oneCell'])
   have ecs : (([.int .u8 (p.1 / 16777216), .int .u8 (p.1 / 65536 % 256), .int .u8 (p.1 / 256 % 256), .int .u8 (p.1 % 256)] : List Value).drop 0).take nb = ints .u8 ((addrBytes p.1).take nb) := by simp [ints, addrBytes, List.map_take]
   rw [ecs] at hsb
   have hnt : ((addrBytes p.1).take nb).length = nb := by rw [List.length_take]; simp [addrBytes]; omega
   refine appK.ints (P := Try.prog) (e := 5) (bt := 1) (z := .int .u8 0) (by kernel_rfl) (by kernel_rfl) (by kernel_rfl) (by kernel_rfl) (by decide) N5.1 hsb (by rw [hnt, List.length_append, List.length_singleton]; omega) ?_
   intro v2 M6 hN6 hF6
   (repeat (first | refine st ?_ | refine σa ?_ | refine d103_Nl3 ?_ | ((first | refine a103_Nl3 ?_ | refine σb ?_ | refine σc ?_); simp (disch := omega) only [push_cast, ↓reduceIte, reduceCtorEq, ν1, ν2, ν3, ν4, ν5, ζ1, ζ2, ζ3, ζ4, ζ5])))
   refine ⟨rfl, n - 1, by omega, i + 1, by simp (disch := omega) only [push_cast, ↓reduceIte, reduceCtorEq, Nat.reduceAdd, Nat.reduceMul, Nat.reduceLeDiff, Nat.reduceLT, Nat.reduceSub, Int.reduceNe, Int.reduceEq, Int.reduceLE, Int.reduceLT, Int.reduceToNat, w_i64], by omega, bs ++ [p.2] ++ (addrBytes p.1).take nb, ?_, by rw [List.length_append, List.length_append, hnt, List.length_singleton]; omega, hN6.after F5, F5.new N5 hF6⟩
   rw [htk, nlPut_snoc, if_pos c, hbs, hnb]
   simp [putX]
 ·(repeat (first | refine st ?_ | refine σa ?_ | refine d103_Nl3 ?_ | ((first | refine a103_Nl3 ?_ | refine σb ?_ | refine σc ?_); simp (disch := omega) only [push_cast, ↓reduceIte, reduceCtorEq, ν1, ν2, ν3, ν4, ν5, ζ1, ζ2, ζ3, ζ4, ζ5])))
  ((first | refine retA.ret (by rfl) ?_ | refine retA.normal (by rfl) ?_); simp (disch := omega) only [push_cast, ↓reduceIte, reduceCtorEq, Nat.reduceAdd, Nat.reduceMul, Nat.reduceLeDiff, Nat.reduceLT, Nat.reduceSub, Int.reduceNe, Int.reduceEq, Int.reduceLE, Int.reduceLT, Int.reduceToNat])
  obtain rfl : i = l.length := by omega
  rw [List.take_length] at hbs
  exact ⟨hF, .inl ⟨bs, hbs, o, rfl, hN⟩⟩
def mvL (m : MV) (gone path comms new data : Value) : List Value := [.int .i64 m.kind, .int .u32 m.asn, .int .u32 m.id, .int .i64 m.hold, gone, .int .i64 m.attrs.origin, path, .int .u32 m.attrs.hop, .int .u32 m.attrs.med, .int .u32 m.attrs.pref, .bool m.attrs.hasMed, .bool m.attrs.hasPref, comms, new, .int .i64 m.code, .int .i64 m.sub, data]
theorem mvL_ld (P : Program) (ty : TypeId) (m : MV) (gone path comms new data : Value) (j : Nat) : bload P ty (mvL m gone path comms new data) j = bload P ty [.int .i64 m.kind, .int .u32 m.asn, .int .u32 m.id, .int .i64 m.hold, gone, .int .i64 m.attrs.origin, path, .int .u32 m.attrs.hop, .int .u32 m.attrs.med, .int .u32 m.attrs.pref, .bool m.attrs.hasMed, .bool m.attrs.hasPref, comms, new, .int .i64 m.code, .int .i64 m.sub, data] j := rfl
theorem shortP_rng {n : Int} (h : u32 n) : 0 ≤ shortP n ∧ shortP n ≤ 65535 := by
 have := h.1
 unfold shortP; split <;> omega
theorem WrS.at {M M' : Mem} {p : Nat} {v : Value} {bs : List Int} {b : Nat} {B : Blk} (h : WrS M p v bs M') (hb : At M b B) (h1 : b ≠ p) (h2 : b ∉ blkOf v) : At M' b B := hb.keep h.1 (by simp [h1, h2])
theorem wopen_spec (p : Nat) (v : Value) (bs : List Int) (m : MV) (g a c nw d : Value) (M : Mem) (h : WrA M p v bs) (hk : m.kind = 1) (hr : rightM m) (hg : goodM m) (hl : bs.length ≤ 1000) :
  CallA Try.prog 65 [.pointer (some ⟨p, 0, none⟩), .agg ⟨mvL m g a c nw d⟩] M fun r M' => r = .tuple ⟨[]⟩ ∧ WrS M p v (bs ++ bodyB m) M' := by
 unfold rightM at hr
 rw [if_pos hk] at hr
 have hh : 0 ≤ m.hold ∧ m.hold ≤ 65535 := by omega
 have hh1 := hh.1
 have hh2 := hh.2
 have wh : m.hold % 65536 = m.hold := by omega
 have ha := hg.1
 have hi := hg.2.1
 have hpM := h.at'.lt
 have hvM := h.own.sl.blks
 (refine CallA.of_body Try.func65 rfl (by rfl) ?_; simp only [Try.ntmps65, List.length_cons, List.length_nil, List.replicate, List.cons_append, List.nil_append, Nat.reduceSub, Nat.reduceAdd])
 (repeat (first | refine st ?_ | refine σa ?_ | (refine σb ?_; simp (disch := omega) only [push_cast, ↓reduceIte, reduceCtorEq, ν1, ν2, ν3, ν4, ν5, ζ1, ζ2, ζ3, ζ4, ζ5, buildE, memE, boxE])))
 have P0 := Fr.push M (.box (mvL m g a c nw d))
 have B0 := At.push M (.box (mvL m g a c nw d))
 generalize hM0 : M ++ [Blk.box (mvL m g a c nw d)] = M0 at *
 have hlen0 : M0.length = M.length + 1 := by rw [← hM0]; simp
 have P1 := Fr.push M0 (.row true 1 [.int .u8 4])
 have r1 := New.row M0 (s := 1) (n := 1) (cs := ints .u8 [4]) (by omega) rfl rfl (by decide)
 refine (woct_spec p v bs _ [4] _ ((h.keep P0 (by simp)).keep P1 (by simp)) r1.sl (by simp; omega)).mono ?_
 rintro r M1 ⟨rfl, W1⟩
 have B1 := W1.at (B0.keep P1 (by simp)) (by omega) (fun hc => by have := hvM _ hc; omega)
 obtain ⟨F1, v1, A1, N1⟩ := W1.pre P1
 have hb1 := A1.at'.lt
 unfold mvL at B0 B1
 have s1 := shortP_rng ha
 (repeat (first | refine st ?_ | refine σa ?_ | (refine σb ?_; simp (disch := omega) only [push_cast, ↓reduceIte, reduceCtorEq, ν1, ν2, ν3, ν4, ν5, ζ1, ζ2, ζ3, ζ4, ζ5, B1.ld, buildE])))
 refine (short_spec m.asn _ ha).mono ?_
 rintro r M1' ⟨rfl, rfl⟩
 (repeat (first | refine st ?_ | refine σa ?_ | (refine σb ?_; simp (disch := omega) only [push_cast, ↓reduceIte, reduceCtorEq, ν1, ν2, ν3, ν4, ν5, ζ1, ζ2, ζ3, ζ4, ζ5])))
 refine (wtwo_spec p v1 _ (shortP m.asn) _ A1 s1 (by simp; omega)).mono ?_
 rintro r M2 ⟨rfl, W2⟩
 have B2 := W2.at B1 (by omega) (fun hc => by have := N1.blk _ hc; omega)
 have T2 := WrS.tr F1 N1 W2
 obtain ⟨F2, v2, A2, N2⟩ := T2
 have wu : IntKind.u16.wrap m.hold = m.hold := by rw [wm_u16, wh]
 (repeat (first | refine st ?_ | refine σa ?_ | (refine σb ?_; simp (disch := omega) only [push_cast, ↓reduceIte, reduceCtorEq, ν1, ν2, ν3, ν4, ν5, ζ1, ζ2, ζ3, ζ4, ζ5, B2.ld, wu, buildE])))
 refine (wtwo_spec p v2 _ m.hold _ A2 hh (by simp [twoB]; omega)).mono ?_
 rintro r M3 ⟨rfl, W3⟩
 have B3 := W3.at B2 (by omega) (fun hc => by have := N2.blk _ hc; omega)
 obtain ⟨F3, v3, A3, N3⟩ := WrS.tr F2 N2 W3
 (repeat (first | refine st ?_ | refine σa ?_ | (refine σb ?_; simp (disch := omega) only [push_cast, ↓reduceIte, reduceCtorEq, ν1, ν2, ν3, ν4, ν5, ζ1, ζ2, ζ3, ζ4, ζ5, B3.ld, buildE])))
 refine (wfour_spec p v3 _ m.id _ A3 hi (by simp [twoB]; omega)).mono ?_
 rintro r M4 ⟨rfl, W4⟩
 have B4 := W4.at B3 (by omega) (fun hc => by have := N3.blk _ hc; omega)
 obtain ⟨F4, v4, A4, N4⟩ := WrS.tr F3 N3 W4
 (repeat (first | refine st ?_ | refine σa ?_ | (refine σb ?_; simp (disch := omega) only [push_cast, ↓reduceIte, reduceCtorEq, ν1, ν2, ν3, ν4, ν5, ζ1, ζ2, ζ3, ζ4, ζ5, buildE, memE, boxE])))
 have P5 := Fr.push M4 (.row true 1 [.int .u8 8, .int .u8 2, .int .u8 6, .int .u8 65, .int .u8 4])
 have r5 := New.row M4 (s := 1) (n := 5) (cs := ints .u8 [8, 2, 6, 65, 4]) (by omega) rfl rfl (by decide)
 refine (woct_spec p v4 _ _ [8, 2, 6, 65, 4] _ (A4.keep P5 (by simp)) r5.sl (by simp [twoB, addrBytes]; omega)).mono ?_
 rintro r M5 ⟨rfl, W5⟩
 have W5' := W5.pre P5
 have B5 := W5'.at B4 (by omega) (fun hc => by have := N4.blk _ hc; omega)
 obtain ⟨F5, v5, A5, N5⟩ := WrS.tr F4 N4 W5'
 (repeat (first | refine st ?_ | refine σa ?_ | (refine σb ?_; simp (disch := omega) only [push_cast, ↓reduceIte, reduceCtorEq, ν1, ν2, ν3, ν4, ν5, ζ1, ζ2, ζ3, ζ4, ζ5, B5.ld, buildE])))
 refine (wfour_spec p v5 _ m.asn _ A5 ha (by simp [twoB, addrBytes]; omega)).mono ?_
 rintro r M6 ⟨rfl, W6⟩
 have T6 := (WrS.tr F5 N5 W6).pre P0
 (repeat (first | refine st ?_ | refine σa ?_ | (refine σb ?_; simp (disch := omega) only [push_cast, ↓reduceIte, reduceCtorEq, ν1, ν2, ν3, ν4, ν5, ζ1, ζ2, ζ3, ζ4, ζ5])))
 ((first | refine retA.ret (by rfl) ?_ | refine retA.normal (by rfl) ?_); simp (disch := omega) only [push_cast, ↓reduceIte, reduceCtorEq, Nat.reduceAdd, Nat.reduceMul, Nat.reduceLeDiff, Nat.reduceLT, Nat.reduceSub, Int.reduceNe, Int.reduceEq, Int.reduceLE, Int.reduceLT, Int.reduceToNat])
 have e : bodyB m = [4] ++ twoB (shortP m.asn) ++ twoB m.hold ++ addrBytes m.id ++ [8, 2, 6, 65, 4] ++ addrBytes m.asn := by unfold bodyB; rw [if_pos hk]; rfl
 rw [e]
 simp only [List.append_assoc] at T6 ⊢
 exact T6
structure WSt (M : Mem) (s : Nat) (B : Blk) (w : Value) (out : List Int) (M' : Mem) : Prop where
 lt : M.length < s
 fr : Fr M M' []
 bx : At M' M.length B
 wr : At M' s (.box [w])
 own : Own M' w 1 (ints .u8 out)
 blk : ∀ b ∈ blkOf w, s < b
theorem WSt.keep {M M' M2 : Mem} {s : Nat} {B : Blk} {w : Value} {out : List Int} (h : WSt M s B w out M') (f : Fr M' M2 []) : WSt M s B w out M2 :=
 ⟨h.lt, h.fr.tr f, h.bx.keep f (by simp), h.wr.keep f (by simp), h.own.keep f (by simp), h.blk⟩
theorem WSt.sep {M M' : Mem} {s : Nat} {B : Blk} {w v : Value} {out : List Int} (h : WSt M s B w out M') (hv : ∀ b ∈ blkOf v, M'.length ≤ b) : ∀ b ∈ blkOf v, b ≠ s ∧ b ∉ blkOf w := fun b hb => by
 have h1 := hv b hb
 have h2 := h.wr.lt
 refine ⟨by omega, fun h3 => ?_⟩
 have := h.own.sl.blks b h3
 omega
theorem wputK {M M' : Mem} {s : Nat} {B : Blk} {w v : Value} {out ys : List Int} {k fl : Int} {K : Value → Mem → Prop} (h : WSt M s B w out M') (hv : Sl M' v 1 (ints .u8 ys)) (hsv : ∀ b ∈ blkOf v, b ≠ s ∧ b ∉ blkOf w) (hl : ys.length ≤ 65535) (ho : out.length ≤ 1000000) (hf : flagsP k = fl) (hk : fl = 64 ∨ fl = 128 ∨ fl = 192)
  (hK : ∀ r w' M3, WSt M s B w' (out ++ oneP fl k ys) M3 → K r M3) : CallA Try.prog 131 [.pointer (some ⟨s, 0, none⟩), .int .u8 k, v] M' K := by
 have hlt := h.lt
 refine (wput_spec s M.length w out k v ys M' h.wr h.own (fun e => by have := h.blk s e; omega) ⟨by omega, fun b hb => by have := h.blk b hb; omega⟩ h.fr.1 hv hsv hl ho (by rw [hf]; exact hk)).mono ?_
 rintro r M3 ⟨w', h1, h2, h3, h4⟩
 rw [hf] at h2
 have hM := h.fr.1
 have h5 : Fr M M3 [] := (h.fr.trans h4).cut (by
  intro x hx hlt
  rcases List.mem_append.1 hx with hx | hx
  ·cases hx
  ·rcases List.mem_cons.1 hx with rfl | hx
   ·omega
   ·have := h.blk x hx; omega)
 have hsl := h.wr.lt
 exact hK r w' M3 ⟨h.lt, h5, h.bx.keep h4 (by
  intro hx
  rcases List.mem_cons.1 hx with e | hx
  ·omega
  ·have := h.blk _ hx; omega), h1, h2, fun b hb => by have := h3 b hb; omega⟩
theorem nums1K {M : Mem} {x : Int} {K : Value → Mem → Prop} (hx : u32 x) (h : ∀ r M', New M M' r 1 (ints .u8 (foursL [x])) → Fr M M' [] → K r M') : CallA Try.prog 132 [.slice (some ⟨M.length, 0, none⟩) 1 1] (M ++ [.row true 1 [.int .u32 x]]) K := by
 have hrow := New.row M (s := 1) (n := 1) (cs := ints .u32 [x]) (by omega) rfl rfl (by decide)
 refine (anums_spec _ [x] _ hrow.sl (fun y hy => by rcases List.mem_singleton.1 hy with rfl; exact hx) (by simp)).mono ?_
 rintro r M' ⟨hN, hF⟩
 exact h r M' (hN.after (Fr.push M _)) ((Fr.push M _).tr hF)
theorem oneP_len (fl k : Int) (v : List Int) : (oneP fl k v).length ≤ 4 + v.length := by unfold oneP; split <;> simp <;> omega
theorem put_spec (a : AV) (p c : Value) (M : Mem) (hp : Sl M p 1 (ints .u32 a.path)) (hc : Sl M c 1 (ints .u32 a.comms)) (hg : goodAV a) (h1 : a.path.length ≤ 1000000) (h2 : a.comms.length ≤ 1000000) : CallA Try.prog 104 [.agg ⟨avL a p c⟩] M fun r M' => Fr M M' [] ∧
  ((rightP a ∧ ∃ w, r = .tuple ⟨[w, .int .i64 0]⟩ ∧ New M M' w 1 (ints .u8 (putP a))) ∨ (¬ rightP a ∧ r = .tuple ⟨[.slice none 0 0, .int .i64 4]⟩)) := by
 obtain ⟨g1, g2, g3, g4, g5⟩ := hg
 have fb := Fr.push M (.box (avL a p c))
 have bx := At.push M (.box (avL a p c))
 have op := isSl_one hp.isSl
 have oc := isSl_one hc.isSl
 simp only [Value.oneCell'] at op oc
 unfold avL at *
 (refine CallA.of_body Try.func104 rfl (by rfl) ?_; simp only [Try.ntmps104, List.length_cons, List.length_nil, List.replicate, List.cons_append, List.nil_append, Nat.reduceSub, Nat.reduceAdd])
 (repeat (first | refine st ?_ | refine σa ?_ | (refine σb ?_; simp (disch := omega) only [push_cast, ↓reduceIte, reduceCtorEq, ν1, ν2, ν3, ν4, ν5, ζ1, ζ2, ζ3, ζ4, ζ5, buildE, memE, boxE])))
 refine (right_spec a p c _ (hp.keep fb (by simp)) (hc.keep fb (by simp)) (by omega) (by omega)).mono ?_
 rintro r M1 ⟨hF1, rfl⟩
 have hF := fb.tr hF1
 have bx1 := bx.keep hF1 (by simp)
 by_cases hr : rightP a
 rotate_left
 ·have d : decide (rightP a) = false := decide_eq_false hr
  rw [d]
  (repeat (first | refine st ?_ | refine σa ?_ | (refine σb ?_; simp (disch := omega) only [push_cast, ↓reduceIte, reduceCtorEq, ν1, ν2, ν3, ν4, ν5, ζ1, ζ2, ζ3, ζ4, ζ5, Bool.not_false])))
  ((first | refine retA.ret (by rfl) ?_ | refine retA.normal (by rfl) ?_); simp (disch := omega) only [push_cast, ↓reduceIte, reduceCtorEq, Nat.reduceAdd, Nat.reduceMul, Nat.reduceLeDiff, Nat.reduceLT, Nat.reduceSub, Int.reduceNe, Int.reduceEq, Int.reduceLE, Int.reduceLT, Int.reduceToNat])
  exact ⟨hF, .inr hr⟩
 have d : decide (rightP a) = true := decide_eq_true hr
 rw [d]
 have r5 := hr.2.2.2.2.1
 have r6 := hr.2.2.2.2.2.1
 have wu : IntKind.u8.wrap a.origin = a.origin := w_u8 (by omega) (by omega)
 have hM1 : M.length < M1.length := bx1.lt
 have W0 : WSt M M1.length (.box [.int .i64 a.origin, p, .int .u32 a.hop, .int .u32 a.med, .int .u32 a.pref, .bool a.hasMed, .bool a.hasPref, c]) (.slice none 0 0) [] (M1 ++ [.box [.slice none 0 0]]) :=
  ⟨hM1, hF.tr (Fr.push M1 _), bx1.keep (Fr.push M1 _) (by simp), At.push M1 _, Own.nil _ (by omega), fun b hb => by cases hb⟩
 have hpl := hr.2.1
 have hcl := hr.2.2.1
 have n1 := oneP_len 64 1 [a.origin]
 have n2 := oneP_len 64 2 (pathB a.path)
 have n2b := pathB_length a.path
 have n3 := oneP_len 64 3 (foursL [a.hop])
 have n4 := oneP_len 128 4 (foursL [a.med])
 have n5 := oneP_len 64 5 (foursL [a.pref])
 have n8 := oneP_len 192 8 (foursL a.comms)
 rw [foursL_length] at n3 n4 n5 n8
 simp only [List.length_cons, List.length_nil] at n1 n3 n4 n5
 (repeat (first | refine st ?_ | refine σa ?_ | (refine σb ?_; simp (disch := omega) only [push_cast, ↓reduceIte, reduceCtorEq, ν1, ν2, ν3, ν4, ν5, ζ1, ζ2, ζ3, ζ4, ζ5, W0.bx.ld, wu, Bool.not_true])))
 refine wputK (W0.keep (Fr.push _ _)) (New.lit _ 1 [a.origin] rfl (by decide)).sl (W0.sep (New.lit _ 1 [a.origin] rfl (by decide)).blk) (by simp) (by simp) (fl := 64) rfl (.inl rfl) ?_
 intro r w1 M3 W1
 rw [List.nil_append] at W1
 have hp3 := hp.keep W1.fr (by simp)
 have hsp := hp.isSl
 have hnp := hp.lnI
 (repeat (first | refine st ?_ | refine σa ?_ | (refine σb ?_; simp (disch := omega) only [push_cast, ↓reduceIte, reduceCtorEq, ν1, ν2, ν3, ν4, ν5, ζ1, ζ2, ζ3, ζ4, ζ5, W1.bx.ld, hsp, hnp])))
 clear W0 bx1 bx hF1 hF fb
 refine AW.joinF [5, 23, 24, 25, 26, 27, 28, 29] (fun g M' => WSt M M1.length (.box [.int .i64 a.origin, p, .int .u32 a.hop, .int .u32 a.med, .int .u32 a.pref, .bool a.hasMed, .bool a.hasPref, c]) w1 (oneP 64 1 [a.origin]) M' ∧ Sl M' (g 5) 1 (ints .u8 (pathB a.path)) ∧ ∀ b ∈ blkOf (g 5), b ≠ M1.length ∧ b ∉ blkOf w1) ?_ ?_
 ·by_cases cp : a.path = []
  ·have d : decide ((a.path.length : Int) > 0) = false := by rw [cp]; rfl
   (repeat (first | refine st ?_ | refine σa ?_ | (refine σb ?_; simp (disch := omega) only [push_cast, ↓reduceIte, reduceCtorEq, ν1, ν2, ν3, ν4, ν5, ζ1, ζ2, ζ3, ζ4, ζ5, d])))
   refine ⟨rfl, W1, ?_, fun b hb => by cases hb⟩
   rw [cp]
   exact Sl.nil _ (by omega)
  ·have d : decide ((a.path.length : Int) > 0) = true := decide_eq_true (by have := List.length_pos_iff.2 cp; omega)
   have wn : IntKind.u8.wrap (a.path.length : Int) = a.path.length := w_u8 (by omega) (by omega)
   have W2 := W1.keep (Fr.push M3 (.row true 1 [.int .u8 2, .int .u8 (a.path.length : Int)]))
   (repeat (first | refine st ?_ | refine σa ?_ | (refine σb ?_; simp (disch := omega) only [push_cast, ↓reduceIte, reduceCtorEq, ν1, ν2, ν3, ν4, ν5, ζ1, ζ2, ζ3, ζ4, ζ5, d, wn, W2.bx.ld])))
   have r0 := New.lit M3 2 [2, (a.path.length : Int)] rfl (by decide)
   refine (anums_spec p a.path _ (hp3.keep (Fr.push M3 (.row true 1 (ints .u8 [2, (a.path.length : Int)]))) (by simp)) g1 h1).mono ?_
   rintro r M4 ⟨hN4, hF4⟩
   (repeat (first | refine st ?_ | refine σa ?_ | (refine σb ?_; simp (disch := omega) only [push_cast, ↓reduceIte, reduceCtorEq, ν1, ν2, ν3, ν4, ν5, ζ1, ζ2, ζ3, ζ4, ζ5])))
   have fl4 := foursL_length a.path
   refine appK.ints (P := Try.prog) (e := 5) (bt := 1) (z := .int .u8 0) (by kernel_rfl) (by kernel_rfl) (by kernel_rfl) (by kernel_rfl) (by decide) (r0.1.keep hF4 (by simp)) hN4.sl (by simp; omega) ?_
   intro v5 M5 hN5 hF5
   (repeat (first | refine st ?_ | refine σa ?_ | (refine σb ?_; simp (disch := omega) only [push_cast, ↓reduceIte, reduceCtorEq, ν1, ν2, ν3, ν4, ν5, ζ1, ζ2, ζ3, ζ4, ζ5])))
   have F35 : Fr M3 M5 [] := ((Fr.push M3 _).tr hF4).new (r0.keep hF4 (by simp)) hF5
   have N5 : New M3 M5 v5 1 (ints .u8 ([2, (a.path.length : Int)] ++ foursL a.path)) := hN5.after ((Fr.push M3 _).tr hF4)
   have e : pathB a.path = [2, (a.path.length : Int)] ++ foursL a.path := by unfold pathB; rw [if_neg cp]; rfl
   rw [e]
   exact ⟨rfl, W1.keep F35, N5.sl, W1.sep N5.blk⟩
 rintro g M4 ⟨W2, hseg, hsep⟩
 (repeat (first | refine st ?_ | refine σa ?_ | (refine σb ?_; simp (disch := omega) only [push_cast, ↓reduceIte, reduceCtorEq, ν1, ν2, ν3, ν4, ν5, ζ1, ζ2, ζ3, ζ4, ζ5])))
 refine wputK W2 hseg hsep (by omega) (by omega) (fl := 64) rfl (.inl rfl) ?_
 intro r w2 M5 W3
 (repeat (first | refine st ?_ | refine σa ?_ | (refine σb ?_; simp (disch := omega) only [push_cast, ↓reduceIte, reduceCtorEq, ν1, ν2, ν3, ν4, ν5, ζ1, ζ2, ζ3, ζ4, ζ5, W3.bx.ld])))
 refine nums1K g2 ?_
 intro r M6 hN6 hF6
 (repeat (first | refine st ?_ | refine σa ?_ | (refine σb ?_; simp (disch := omega) only [push_cast, ↓reduceIte, reduceCtorEq, ν1, ν2, ν3, ν4, ν5, ζ1, ζ2, ζ3, ζ4, ζ5])))
 refine wputK (W3.keep hF6) hN6.sl (W3.sep hN6.blk) (by rw [foursL_length]; simp) (by rw [List.length_append]; omega) (fl := 64) rfl (.inl rfl) ?_
 intro r w3 M7 W4
 (repeat (first | refine st ?_ | refine σa ?_ | (refine σb ?_; simp (disch := omega) only [push_cast, ↓reduceIte, reduceCtorEq, ν1, ν2, ν3, ν4, ν5, ζ1, ζ2, ζ3, ζ4, ζ5, W4.bx.ld])))
 refine AW.joinF [41, 42, 43, 44, 45, 46] (fun g M' => ∃ w', WSt M M1.length (.box [.int .i64 a.origin, p, .int .u32 a.hop, .int .u32 a.med, .int .u32 a.pref, .bool a.hasMed, .bool a.hasPref, c]) w' (oneP 64 1 [a.origin] ++ oneP 64 2 (pathB a.path) ++ oneP 64 3 (foursL [a.hop]) ++ (if a.hasMed = true then oneP 128 4 (foursL [a.med]) else [])) M') ?_ ?_
 ·cases hm : a.hasMed with
  | false =>
   rw [hm] at W4
   (repeat (first | refine st ?_ | refine σa ?_ | (refine σb ?_; simp (disch := omega) only [push_cast, ↓reduceIte, reduceCtorEq, ν1, ν2, ν3, ν4, ν5, ζ1, ζ2, ζ3, ζ4, ζ5])))
   exact ⟨(over_self _ _).symm, w3, by simpa using W4⟩
  | true =>
   rw [hm] at W4
   (repeat (first | refine st ?_ | refine σa ?_ | (refine σb ?_; simp (disch := omega) only [push_cast, ↓reduceIte, reduceCtorEq, ν1, ν2, ν3, ν4, ν5, ζ1, ζ2, ζ3, ζ4, ζ5, W4.bx.ld])))
   refine nums1K g3 ?_
   intro r M6 hN6 hF6
   (repeat (first | refine st ?_ | refine σa ?_ | (refine σb ?_; simp (disch := omega) only [push_cast, ↓reduceIte, reduceCtorEq, ν1, ν2, ν3, ν4, ν5, ζ1, ζ2, ζ3, ζ4, ζ5])))
   refine wputK (W4.keep hF6) hN6.sl (W4.sep hN6.blk) (by rw [foursL_length]; simp) (by simp only [List.length_append]; omega) (fl := 128) rfl (.inr (.inl rfl)) ?_
   intro r w4 M7 W5
   (repeat (first | refine st ?_ | refine σa ?_ | (refine σb ?_; simp (disch := omega) only [push_cast, ↓reduceIte, reduceCtorEq, ν1, ν2, ν3, ν4, ν5, ζ1, ζ2, ζ3, ζ4, ζ5])))
   exact ⟨rfl, w4, by simpa using W5⟩
 rintro g2 M8 ⟨w4, W5⟩
 have n4' : (if a.hasMed = true then oneP 128 4 (foursL [a.med]) else []).length ≤ 8 := by split; omega; simp
 generalize hout : oneP 64 1 [a.origin] ++ oneP 64 2 (pathB a.path) ++ oneP 64 3 (foursL [a.hop]) ++ (if a.hasMed = true then oneP 128 4 (foursL [a.med]) else []) = out4 at *
 have nout : out4.length ≤ 2000 := by rw [← hout]; simp only [List.length_append]; omega
 (repeat (first | refine st ?_ | refine σa ?_ | (refine σb ?_; simp (disch := omega) only [push_cast, ↓reduceIte, reduceCtorEq, ν1, ν2, ν3, ν4, ν5, ζ1, ζ2, ζ3, ζ4, ζ5, W5.bx.ld])))
 refine AW.joinF [49, 50, 51, 52, 53, 54] (fun g M' => ∃ w', WSt M M1.length (.box [.int .i64 a.origin, p, .int .u32 a.hop, .int .u32 a.med, .int .u32 a.pref, .bool a.hasMed, .bool a.hasPref, c]) w' (out4 ++ (if a.hasPref = true then oneP 64 5 (foursL [a.pref]) else [])) M') ?_ ?_
 ·cases hm : a.hasPref with
  | false =>
   rw [hm] at W5
   (repeat (first | refine st ?_ | refine σa ?_ | (refine σb ?_; simp (disch := omega) only [push_cast, ↓reduceIte, reduceCtorEq, ν1, ν2, ν3, ν4, ν5, ζ1, ζ2, ζ3, ζ4, ζ5])))
   exact ⟨(over_self _ _).symm, w4, by simpa using W5⟩
  | true =>
   rw [hm] at W5
   (repeat (first | refine st ?_ | refine σa ?_ | (refine σb ?_; simp (disch := omega) only [push_cast, ↓reduceIte, reduceCtorEq, ν1, ν2, ν3, ν4, ν5, ζ1, ζ2, ζ3, ζ4, ζ5, W5.bx.ld])))
   refine nums1K g4 ?_
   intro r M6 hN6 hF6
   (repeat (first | refine st ?_ | refine σa ?_ | (refine σb ?_; simp (disch := omega) only [push_cast, ↓reduceIte, reduceCtorEq, ν1, ν2, ν3, ν4, ν5, ζ1, ζ2, ζ3, ζ4, ζ5])))
   refine wputK (W5.keep hF6) hN6.sl (W5.sep hN6.blk) (by rw [foursL_length]; simp) (by omega) (fl := 64) rfl (.inl rfl) ?_
   intro r w4 M7 W6
   (repeat (first | refine st ?_ | refine σa ?_ | (refine σb ?_; simp (disch := omega) only [push_cast, ↓reduceIte, reduceCtorEq, ν1, ν2, ν3, ν4, ν5, ζ1, ζ2, ζ3, ζ4, ζ5])))
   exact ⟨rfl, w4, by simpa using W6⟩
 rintro g3 M9 ⟨w5, W6⟩
 have n5' : (if a.hasPref = true then oneP 64 5 (foursL [a.pref]) else []).length ≤ 8 := by split; omega; simp
 have hsc := hc.isSl
 have hnc := hc.lnI
 (repeat (first | refine st ?_ | refine σa ?_ | (refine σb ?_; simp (disch := omega) only [push_cast, ↓reduceIte, reduceCtorEq, ν1, ν2, ν3, ν4, ν5, ζ1, ζ2, ζ3, ζ4, ζ5, W6.bx.ld, hsc, hnc])))
 refine AW.joinF [59, 60, 61, 62, 63] (fun g M' => ∃ w', WSt M M1.length (.box [.int .i64 a.origin, p, .int .u32 a.hop, .int .u32 a.med, .int .u32 a.pref, .bool a.hasMed, .bool a.hasPref, c]) w' (putP a) M') ?_ ?_
 ·by_cases cc : a.comms = []
  ·have d : decide ((a.comms.length : Int) > 0) = false := by rw [cc]; rfl
   (repeat (first | refine st ?_ | refine σa ?_ | (refine σb ?_; simp (disch := omega) only [push_cast, ↓reduceIte, reduceCtorEq, ν1, ν2, ν3, ν4, ν5, ζ1, ζ2, ζ3, ζ4, ζ5, d])))
   have e : putP a = out4 ++ (if a.hasPref = true then oneP 64 5 (foursL [a.pref]) else []) := by unfold putP; rw [hout, cc]; simp
   rw [e]
   exact ⟨(over_self _ _).symm, w5, W6⟩
  ·have d : decide ((a.comms.length : Int) > 0) = true := decide_eq_true (by have := List.length_pos_iff.2 cc; omega)
   (repeat (first | refine st ?_ | refine σa ?_ | (refine σb ?_; simp (disch := omega) only [push_cast, ↓reduceIte, reduceCtorEq, ν1, ν2, ν3, ν4, ν5, ζ1, ζ2, ζ3, ζ4, ζ5, d, W6.bx.ld])))
   refine (anums_spec c a.comms _ (hc.keep W6.fr (by simp)) g5 h2).mono ?_
   rintro r M10 ⟨hN6, hF6⟩
   (repeat (first | refine st ?_ | refine σa ?_ | (refine σb ?_; simp (disch := omega) only [push_cast, ↓reduceIte, reduceCtorEq, ν1, ν2, ν3, ν4, ν5, ζ1, ζ2, ζ3, ζ4, ζ5])))
   refine wputK (W6.keep hF6) hN6.sl (W6.sep hN6.blk) (by rw [foursL_length]; omega) (by rw [List.length_append]; omega) (fl := 192) rfl (.inr (.inr rfl)) ?_
   intro r w4 M7 W7
   (repeat (first | refine st ?_ | refine σa ?_ | (refine σb ?_; simp (disch := omega) only [push_cast, ↓reduceIte, reduceCtorEq, ν1, ν2, ν3, ν4, ν5, ζ1, ζ2, ζ3, ζ4, ζ5])))
   have e : putP a = out4 ++ (if a.hasPref = true then oneP 64 5 (foursL [a.pref]) else []) ++ oneP 192 8 (foursL a.comms) := by unfold putP; rw [hout, if_neg cc]
   rw [e]
   exact ⟨rfl, w4, W7⟩
 rintro g4 M11 ⟨w6, W8⟩
 (repeat (first | refine st ?_ | refine σa ?_ | (refine σb ?_; simp (disch := omega) only [push_cast, ↓reduceIte, reduceCtorEq, ν1, ν2, ν3, ν4, ν5, ζ1, ζ2, ζ3, ζ4, ζ5, W8.wr.ld])))
 ((first | refine retA.ret (by rfl) ?_ | refine retA.normal (by rfl) ?_); simp (disch := omega) only [push_cast, ↓reduceIte, reduceCtorEq, Nat.reduceAdd, Nat.reduceMul, Nat.reduceLeDiff, Nat.reduceLT, Nat.reduceSub, Int.reduceNe, Int.reduceEq, Int.reduceLE, Int.reduceLT, Int.reduceToNat])
 exact ⟨W8.fr, .inl ⟨hr, w6, rfl, W8.own, fun a' n' c' e hc0 => by have := W8.blk a'.block (by rw [e]; simp [blkOf, hc0]); have := W8.lt; omega⟩⟩
end Go.Proofs.Ytbdejnnbpdgjlaa.Ax
