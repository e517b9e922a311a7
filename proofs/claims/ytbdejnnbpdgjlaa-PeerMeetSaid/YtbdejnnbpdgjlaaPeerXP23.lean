/- Contracts of functions over the abstract machine. No conditions: lemmas alone. -/
import Derived.Test.YtbdejnnbpdgjlaaPeerXLibD
import Derived.Test.YtbdejnnbpdgjlaaPeerXP0
import Derived.Test.YtbdejnnbpdgjlaaPeerXP22
import Derived.Test.YtbdejnnbpdgjlaaPeerXP13
import Derived.Test.YtbdejnnbpdgjlaaPeerXP21
import Derived.Test.YtbdejnnbpdgjlaaPeerXP14
import Derived.Test.YtbdejnnbpdgjlaaPeerXP17
namespace Go.Proofs.Ytbdejnnbpdgjlaa.Ax
open Go Go.RowKit
open Nat renaming reduceAdd → ν1, reduceMul → ν2, reduceLeDiff → ν3, reduceLT → ν4, reduceSub → ν5
open Int renaming reduceNe → ζ1, reduceEq → ζ2, reduceLE → ζ3, reduceLT → ζ4, reduceToNat → ζ5
set_option linter.unusedVariables false
set_option linter.unusedSimpArgs false
set_option maxRecDepth 100000
set_option maxHeartbeats 20000000
attribute [local irreducible] thenA blockA scopeA retA AL AW AD ADL AH clrK CallA apure aload bload appK ptrK fnK ares szOk planOk okOps
theorem d24_Ms7 {g n : Prop} (k : n) (h : n → g := by first | exact AW.dr (id := 18) (by rfl) [0, 1, 2, 3, 4, 5, 6, 7, 8, 9, 10, 11, 12, 13, 14, 15, 16, 17, 18, 19, 20, 21, 22, 23, 24] (by kernel_rfl) (by kernel_rfl)) : g := h k
theorem msgput_spec (m : MV) (g a c nw d : Value) (M : Mem) (hi : MVin M m g a c nw d) (hg : goodM m) (hz : sizeM m) :
  CallA Try.prog 24 [.agg ⟨mvL m g a c nw d⟩] M fun r M' => Fr M M' [] ∧ ∃ w, r = .tuple ⟨[w, .int .i64 (putM m).2]⟩ ∧ New M M' w 1 (ints .u8 (putM m).1) := by
 have P0 := Fr.push M (.box (mvL m g a c nw d))
 have B0 := At.push M (.box (mvL m g a c nw d))
 (refine CallA.of_body Try.func24 rfl (by rfl) ?_; simp only [Try.ntmps24, List.length_cons, List.length_nil, List.replicate, List.cons_append, List.nil_append, Nat.reduceSub, Nat.reduceAdd])
 by_cases k : m.kind < 1 ∨ m.kind > 4
 ·have e : putM m = ([], 2) := by unfold putM; rw [if_pos k]
  rw [e]
  by_cases k1 : m.kind < 1
  ·have d1 : decide (m.kind < 1) = true := decide_eq_true k1
   (repeat (first | refine st ?_ | refine σa ?_ | refine d24_Ms7 ?_ | ((first | refine σb ?_ | refine σc ?_); simp (disch := omega) only [push_cast, ↓reduceIte, reduceCtorEq, ν1, ν2, ν3, ν4, ν5, ζ1, ζ2, ζ3, ζ4, ζ5, mvL_ld, d1, buildE, memE, boxE])))
   ((first | refine retA.ret (by rfl) ?_ | refine retA.normal (by rfl) ?_); simp (disch := omega) only [push_cast, ↓reduceIte, reduceCtorEq, Nat.reduceAdd, Nat.reduceMul, Nat.reduceLeDiff, Nat.reduceLT, Nat.reduceSub, Int.reduceNe, Int.reduceEq, Int.reduceLE, Int.reduceLT, Int.reduceToNat])
   exact ⟨P0, _, rfl, (New.nil M (by omega)).after (Fr.refl M) |>.keep P0 (by simp)⟩
  ·have d1 : decide (m.kind < 1) = false := decide_eq_false k1
   have d2 : decide (m.kind > 4) = true := decide_eq_true (by omega)
   (repeat (first | refine st ?_ | refine σa ?_ | refine d24_Ms7 ?_ | ((first | refine σb ?_ | refine σc ?_); simp (disch := omega) only [push_cast, ↓reduceIte, reduceCtorEq, ν1, ν2, ν3, ν4, ν5, ζ1, ζ2, ζ3, ζ4, ζ5, mvL_ld, d1, d2, buildE, memE, boxE])))
   ((first | refine retA.ret (by rfl) ?_ | refine retA.normal (by rfl) ?_); simp (disch := omega) only [push_cast, ↓reduceIte, reduceCtorEq, Nat.reduceAdd, Nat.reduceMul, Nat.reduceLeDiff, Nat.reduceLT, Nat.reduceSub, Int.reduceNe, Int.reduceEq, Int.reduceLE, Int.reduceLT, Int.reduceToNat])
   exact ⟨P0, _, rfl, (New.nil M (by omega)).after (Fr.refl M) |>.keep P0 (by simp)⟩
 have d1 : decide (m.kind < 1) = false := decide_eq_false (by omega)
 have d2 : decide (m.kind > 4) = false := decide_eq_false (by omega)
 (repeat (first | refine st ?_ | refine σa ?_ | refine d24_Ms7 ?_ | ((first | refine σb ?_ | refine σc ?_); simp (disch := omega) only [push_cast, ↓reduceIte, reduceCtorEq, ν1, ν2, ν3, ν4, ν5, ζ1, ζ2, ζ3, ζ4, ζ5, mvL_ld, d1, d2, buildE, memE, boxE])))
 refine (mright_spec m g a c nw d _ (hi.keep P0 (by simp)) hg hz).mono ?_
 rintro r M1 ⟨f1, rfl⟩
 by_cases cr : rightM m
 rotate_left
 ·rw [decide_eq_false cr]
  (repeat (first | refine st ?_ | refine σa ?_ | refine d24_Ms7 ?_ | ((first | refine σb ?_ | refine σc ?_); simp (disch := omega) only [push_cast, ↓reduceIte, reduceCtorEq, ν1, ν2, ν3, ν4, ν5, ζ1, ζ2, ζ3, ζ4, ζ5, Bool.not_true, Bool.not_false])))
  ((first | refine retA.ret (by rfl) ?_ | refine retA.normal (by rfl) ?_); simp (disch := omega) only [push_cast, ↓reduceIte, reduceCtorEq, Nat.reduceAdd, Nat.reduceMul, Nat.reduceLeDiff, Nat.reduceLT, Nat.reduceSub, Int.reduceNe, Int.reduceEq, Int.reduceLE, Int.reduceLT, Int.reduceToNat])
  have e : putM m = ([], 4) := by unfold putM; rw [if_neg k, if_pos cr]
  rw [e]
  exact ⟨P0.tr f1, _, rfl, (New.nil M (by omega)).keep (P0.tr f1) (by simp)⟩
 rw [decide_eq_true cr]
 have B1 := B0.keep f1 (by simp)
 have F1 := P0.tr f1
 have i1 := (hi.keep P0 (by simp)).keep f1 (by simp)
 have hM1 : M.length < M1.length := by have := B1.lt; exact this
 (repeat (first | refine st ?_ | refine σa ?_ | refine d24_Ms7 ?_ | ((first | refine σb ?_ | refine σc ?_); simp (disch := omega) only [push_cast, ↓reduceIte, reduceCtorEq, ν1, ν2, ν3, ν4, ν5, ζ1, ζ2, ζ3, ζ4, ζ5, B1.ld, mvL_ld, Bool.not_true, Bool.not_false, buildE, memE, boxE])))
 have P1 := Fr.push M1 (.row true 1 [.int .u8 255])
 have r1 := New.row M1 (s := 1) (n := 1) (cs := ints .u8 [255]) (by omega) rfl rfl (by decide)
 refine (rep_spec _ _ r1.sl).mono ?_
 rintro w0 M2 ⟨f2, n2⟩
 have B2 := (B1.keep P1 (by simp)).keep f2 (by simp)
 have hM2 := f2.1
 have c0 := isSl_cl n2.1.sl.isSl
 have o0 := isSl_one n2.1.sl.isSl
 simp only [Value.oneCell'] at o0
 (repeat (first | refine st ?_ | refine σa ?_ | refine d24_Ms7 ?_ | ((first | refine σb ?_ | refine σc ?_); simp (disch := omega) only [push_cast, ↓reduceIte, reduceCtorEq, ν1, ν2, ν3, ν4, ν5, ζ1, ζ2, ζ3, ζ4, ζ5, c0, o0, buildE, memE, boxE])))
 have P2 := Fr.push M2 (.box [w0])
 have A2 := At.push M2 (.box [w0])
 obtain ⟨p, hp⟩ : ∃ p, p = M2.length := ⟨_, rfl⟩
 rw [← hp] at A2 ⊢
 generalize hM3 : M2 ++ [Blk.box [w0]] = M3 at *
 have hM1r : (M1 ++ [Blk.row true 1 (ints .u8 [255])]).length = M1.length + 1 := by simp
 have hM1r' : (M1 ++ [Blk.row true 1 [.int .u8 255]]).length = M1.length + 1 := by simp
 have hp0 : M.length < p := by omega
 have W3 : WrA M3 p w0 (List.replicate 16 255) := ⟨A2, n2.1.keep P2 (by simp), fun h => by have := n2.1.sl.blks _ h; omega⟩
 have B3 := B2.keep P2 (by simp)
 have F3 : Fr M M3 [] := ((F1.tr P1).tr f2).tr P2
 have i3 := ((i1.keep P1 (by simp)).keep f2 (by simp)).keep P2 (by simp)
 have sep : ∀ b, b < M1.length → b ∉ p :: blkOf w0 := fun b hb hc => by
  rcases List.mem_cons.1 hc with h | h
  ·omega
  ·have := n2.blk b h; omega
 refine (wtwo_spec p w0 _ 0 M3 W3 (by omega) (by simp)).mono ?_
 rintro r M4 ⟨rfl, F4, v4, A4, N4⟩
 have B4 := B3.keep F4 (sep _ hM1)
 have hb : m.kind % 256 = m.kind := by omega
 (repeat (first | refine st ?_ | refine σa ?_ | refine d24_Ms7 ?_ | ((first | refine σb ?_ | refine σc ?_); simp (disch := omega) only [push_cast, ↓reduceIte, reduceCtorEq, ν1, ν2, ν3, ν4, ν5, ζ1, ζ2, ζ3, ζ4, ζ5, B4.ld, mvL_ld, wm_u8, hb, buildE, memE, boxE])))
 have P4 := Fr.push M4 (.row true 1 [.int .u8 m.kind])
 have r4 := New.row M4 (s := 1) (n := 1) (cs := ints .u8 [m.kind]) (by omega) rfl rfl (by decide)
 refine (woct_spec p v4 _ _ [m.kind] _ (A4.keep P4 (by simp)) r4.sl (by simp [twoB])).mono ?_
 rintro r M5 ⟨rfl, W5⟩
 obtain ⟨F5, v5, A5, N5⟩ := WrS.tr F4 N4 (W5.pre P4)
 have B5 := B3.keep F5 (sep _ hM1)
 -- SWITCH
 have sep2 : ∀ b, b < M.length → b ∉ [] ++ (p :: blkOf w0) := fun b hb => by simpa using sep b (by omega)
 obtain ⟨pre, hpre⟩ : ∃ pre, pre = List.replicate 16 255 ++ twoB 0 ++ [m.kind] := ⟨_, rfl⟩
 have lpre : pre.length = 19 := by rw [hpre]; simp [twoB]
 rw [← hpre] at A5 N5
 have i5 : MVin M5 m g a c nw d := ⟨i3.gone.keep F5 (fun b hb => sep b (by have := i1.gone.blks b hb; omega)), i3.path.keep F5 (fun b hb => sep b (by have := i1.path.blks b hb; omega)), i3.comms.keep F5 (fun b hb => sep b (by have := i1.comms.blks b hb; omega)), i3.new.keep F5 (fun b hb => sep b (by have := i1.new.blks b hb; omega)), i3.data.keep F5 (fun b hb => sep b (by have := i1.data.blks b hb; omega))⟩
 by_cases k1 : m.kind = 1
 ·have e1 : decide (m.kind = 1) = true := decide_eq_true k1
  (repeat (first | refine st ?_ | refine σa ?_ | refine d24_Ms7 ?_ | ((first | refine σb ?_ | refine σc ?_); simp (disch := omega) only [push_cast, ↓reduceIte, reduceCtorEq, ν1, ν2, ν3, ν4, ν5, ζ1, ζ2, ζ3, ζ4, ζ5, B5.ld, mvL_ld, e1, buildE])))
  refine (wopen_spec p v5 pre m g a c nw d M5 A5 k1 cr hg (by omega)).mono ?_
  rintro r M6 ⟨rfl, W6⟩
  obtain ⟨F6, v6, A6, N6⟩ := WrS.tr F5 N5 W6
  obtain ⟨full, hfull⟩ : ∃ full, full = pre ++ bodyB m := ⟨_, rfl⟩
  have l6' : full.length = 19 + (bodyB m).length := by rw [hfull, List.length_append, lpre]
  rw [← hfull] at A6 N6
  have s6 := N6.1.sl.isSl
  have l6 := N6.1.sl.lnI
  by_cases cl : (bodyB m).length + 19 > 4096
  ·have dl : decide ((full.length : Int) > 4096) = true := decide_eq_true (by omega)
   (repeat (first | refine st ?_ | refine σa ?_ | refine d24_Ms7 ?_ | ((first | refine σb ?_ | refine σc ?_); simp (disch := omega) only [push_cast, ↓reduceIte, reduceCtorEq, ν1, ν2, ν3, ν4, ν5, ζ1, ζ2, ζ3, ζ4, ζ5, A6.at'.ld, s6, l6, dl, buildE])))
   ((first | refine retA.ret (by rfl) ?_ | refine retA.normal (by rfl) ?_); simp (disch := omega) only [push_cast, ↓reduceIte, reduceCtorEq, Nat.reduceAdd, Nat.reduceMul, Nat.reduceLeDiff, Nat.reduceLT, Nat.reduceSub, Int.reduceNe, Int.reduceEq, Int.reduceLE, Int.reduceLT, Int.reduceToNat])
   have e : putM m = ([], 6) := by unfold putM; rw [if_neg k, if_neg (not_not_intro cr), if_pos cl]
   rw [e]
   exact ⟨F3.trans F6 |>.cut (fun b hb hlt => absurd hb (sep2 b hlt)), _, rfl, (New.nil M (by omega)).keep (F3.trans F6) (by simp [blkOf])⟩
  have dl : decide ((full.length : Int) > 4096) = false := decide_eq_false (by omega)
  obtain ⟨b0, of0, cp0, pr0, rfl, hget, hoff, hc0, hcap⟩ := N6.1.openI (by intro h; rw [h] at l6'; simp at l6'; omega)
  have hnb := N6.blk b0 (by simp [blkOf, hc0])
  have hno := A6.no
  simp only [blkOf, hc0, if_false, List.mem_singleton] at hno
  have x1 := splI (k := .u8) (xs := full) hoff (i := 16) (by omega) ((full.length : Int) / 256)
  have x2 := roomI (k := .u8) (xs := full) hoff (i := 16) (by omega)
  have x3 := splI (k := .u8) (xs := full.set 16 ((full.length : Int) / 256)) hoff (i := 17) (by simp; omega) ((full.length : Int) % 256)
  have x4 := roomI (k := .u8) (xs := full.set 16 ((full.length : Int) / 256)) hoff (i := 17) (by simp; omega)
  have p8 : (2 : Int) ^ min 8 IntKind.i64.bits = 256 := by decide
  have fd : Int.fdiv (full.length : Int) 256 = (full.length : Int) / 256 := fdiv_in (by omega)
  have qd : (full.length : Int) / 256 % 256 = (full.length : Int) / 256 := by omega
  have hget2 : (M6.set b0 (.row true 1 (pr0 ++ ints .u8 (full.set 16 ((full.length : Int) / 256)))))[b0]? = some (.row true 1 (pr0 ++ ints .u8 (full.set 16 ((full.length : Int) / 256)))) := List.getElem?_set_self (List.getElem?_eq_some_iff.1 hget).1
  have Fs := Fr.set M6 b0 (.row true 1 (pr0 ++ ints .u8 ((full.set 16 ((full.length : Int) / 256)).set 17 ((full.length : Int) % 256))))
  have A7 := A6.at'.keep Fs (by simpa using hno)
  have hown := ownI (k := .u8) (xs := (full.set 16 ((full.length : Int) / 256)).set 17 ((full.length : Int) % 256)) (M := M6.set b0 (.row true 1 (pr0 ++ ints .u8 ((full.set 16 ((full.length : Int) / 256)).set 17 ((full.length : Int) % 256))))) (b := b0) (off := of0) (c := cp0) (pre := pr0) (List.getElem?_set_self (List.getElem?_eq_some_iff.1 hget).1) hoff hc0 (by simpa using hcap)
  (repeat (first | refine st ?_ | refine σa ?_ | refine d24_Ms7 ?_ | ((first | refine σb ?_ | refine σc ?_); simp (disch := omega) only [push_cast, ↓reduceIte, reduceCtorEq, ν1, ν2, ν3, ν4, ν5, ζ1, ζ2, ζ3, ζ4, ζ5, A6.at'.ld, s6, l6, dl, p8, fd, qd, wm_u8, hget, x1, x2, x3, x4, hget2, A7.ld, SlLit, Option.some.injEq, exists_eq_left', List.set_set, Blk.put, Blk.ours, Blk.cells, buildE])))
  ((first | refine retA.ret (by rfl) ?_ | refine retA.normal (by rfl) ?_); simp (disch := omega) only [push_cast, ↓reduceIte, reduceCtorEq, Nat.reduceAdd, Nat.reduceMul, Nat.reduceLeDiff, Nat.reduceLT, Nat.reduceSub, Int.reduceNe, Int.reduceEq, Int.reduceLE, Int.reduceLT, Int.reduceToNat])
  have e : putM m = ((full.set 16 ((full.length : Int) / 256)).set 17 ((full.length : Int) % 256), 0) := by
   unfold putM
   rw [if_neg k, if_neg (not_not_intro cr), if_neg cl]
   have en : (((bodyB m).length + 19 : Nat) : Int) = full.length := by omega
   rw [en, hfull, hpre, ← hpre, ← hfull, ← qd, hfull, hpre]
   rfl
  rw [e]
  have hl : ((full.set 16 ((full.length : Int) / 256)).set 17 ((full.length : Int) % 256)).length = full.length := by simp
  rw [hl] at hown
  have lM3 := F3.1
  exact ⟨((F3.trans F6).trans Fs).cut (fun b hb hlt => by rcases List.mem_append.1 hb with h | h; exact absurd h (sep2 b hlt); simp at h; omega), _, rfl, hown, fun a n c hv hc => by cases hv; exact Nat.le_trans lM3 hnb⟩
 have e1 : decide (m.kind = 1) = false := decide_eq_false k1
 by_cases k2 : m.kind = 2
 ·have e2 : decide (m.kind = 2) = true := decide_eq_true k2
  (repeat (first | refine st ?_ | refine σa ?_ | refine d24_Ms7 ?_ | ((first | refine σb ?_ | refine σc ?_); simp (disch := omega) only [push_cast, ↓reduceIte, reduceCtorEq, ν1, ν2, ν3, ν4, ν5, ζ1, ζ2, ζ3, ζ4, ζ5, B5.ld, mvL_ld, e1, e2, buildE])))
  refine (wupd_spec p v5 pre m g a c nw d M5 A5 i5 k2 cr hg hz (by omega)).mono ?_
  rintro r M6 ⟨rfl, W6⟩
  obtain ⟨F6, v6, A6, N6⟩ := WrS.tr F5 N5 W6
  obtain ⟨full, hfull⟩ : ∃ full, full = pre ++ bodyB m := ⟨_, rfl⟩
  have l6' : full.length = 19 + (bodyB m).length := by rw [hfull, List.length_append, lpre]
  rw [← hfull] at A6 N6
  have s6 := N6.1.sl.isSl
  have l6 := N6.1.sl.lnI
  by_cases cl : (bodyB m).length + 19 > 4096
  ·have dl : decide ((full.length : Int) > 4096) = true := decide_eq_true (by omega)
   (repeat (first | refine st ?_ | refine σa ?_ | refine d24_Ms7 ?_ | ((first | refine σb ?_ | refine σc ?_); simp (disch := omega) only [push_cast, ↓reduceIte, reduceCtorEq, ν1, ν2, ν3, ν4, ν5, ζ1, ζ2, ζ3, ζ4, ζ5, A6.at'.ld, s6, l6, dl, buildE])))
   ((first | refine retA.ret (by rfl) ?_ | refine retA.normal (by rfl) ?_); simp (disch := omega) only [push_cast, ↓reduceIte, reduceCtorEq, Nat.reduceAdd, Nat.reduceMul, Nat.reduceLeDiff, Nat.reduceLT, Nat.reduceSub, Int.reduceNe, Int.reduceEq, Int.reduceLE, Int.reduceLT, Int.reduceToNat])
   have e : putM m = ([], 6) := by unfold putM; rw [if_neg k, if_neg (not_not_intro cr), if_pos cl]
   rw [e]
   exact ⟨F3.trans F6 |>.cut (fun b hb hlt => absurd hb (sep2 b hlt)), _, rfl, (New.nil M (by omega)).keep (F3.trans F6) (by simp [blkOf])⟩
  have dl : decide ((full.length : Int) > 4096) = false := decide_eq_false (by omega)
  obtain ⟨b0, of0, cp0, pr0, rfl, hget, hoff, hc0, hcap⟩ := N6.1.openI (by intro h; rw [h] at l6'; simp at l6'; omega)
  have hnb := N6.blk b0 (by simp [blkOf, hc0])
  have hno := A6.no
  simp only [blkOf, hc0, if_false, List.mem_singleton] at hno
  have x1 := splI (k := .u8) (xs := full) hoff (i := 16) (by omega) ((full.length : Int) / 256)
  have x2 := roomI (k := .u8) (xs := full) hoff (i := 16) (by omega)
  have x3 := splI (k := .u8) (xs := full.set 16 ((full.length : Int) / 256)) hoff (i := 17) (by simp; omega) ((full.length : Int) % 256)
  have x4 := roomI (k := .u8) (xs := full.set 16 ((full.length : Int) / 256)) hoff (i := 17) (by simp; omega)
  have p8 : (2 : Int) ^ min 8 IntKind.i64.bits = 256 := by decide
  have fd : Int.fdiv (full.length : Int) 256 = (full.length : Int) / 256 := fdiv_in (by omega)
  have qd : (full.length : Int) / 256 % 256 = (full.length : Int) / 256 := by omega
  have hget2 : (M6.set b0 (.row true 1 (pr0 ++ ints .u8 (full.set 16 ((full.length : Int) / 256)))))[b0]? = some (.row true 1 (pr0 ++ ints .u8 (full.set 16 ((full.length : Int) / 256)))) := List.getElem?_set_self (List.getElem?_eq_some_iff.1 hget).1
  have Fs := Fr.set M6 b0 (.row true 1 (pr0 ++ ints .u8 ((full.set 16 ((full.length : Int) / 256)).set 17 ((full.length : Int) % 256))))
  have A7 := A6.at'.keep Fs (by simpa using hno)
  have hown := ownI (k := .u8) (xs := (full.set 16 ((full.length : Int) / 256)).set 17 ((full.length : Int) % 256)) (M := M6.set b0 (.row true 1 (pr0 ++ ints .u8 ((full.set 16 ((full.length : Int) / 256)).set 17 ((full.length : Int) % 256))))) (b := b0) (off := of0) (c := cp0) (pre := pr0) (List.getElem?_set_self (List.getElem?_eq_some_iff.1 hget).1) hoff hc0 (by simpa using hcap)
  (repeat (first | refine st ?_ | refine σa ?_ | refine d24_Ms7 ?_ | ((first | refine σb ?_ | refine σc ?_); simp (disch := omega) only [push_cast, ↓reduceIte, reduceCtorEq, ν1, ν2, ν3, ν4, ν5, ζ1, ζ2, ζ3, ζ4, ζ5, A6.at'.ld, s6, l6, dl, p8, fd, qd, wm_u8, hget, x1, x2, x3, x4, hget2, A7.ld, SlLit, Option.some.injEq, exists_eq_left', List.set_set, Blk.put, Blk.ours, Blk.cells, buildE])))
  ((first | refine retA.ret (by rfl) ?_ | refine retA.normal (by rfl) ?_); simp (disch := omega) only [push_cast, ↓reduceIte, reduceCtorEq, Nat.reduceAdd, Nat.reduceMul, Nat.reduceLeDiff, Nat.reduceLT, Nat.reduceSub, Int.reduceNe, Int.reduceEq, Int.reduceLE, Int.reduceLT, Int.reduceToNat])
  have e : putM m = ((full.set 16 ((full.length : Int) / 256)).set 17 ((full.length : Int) % 256), 0) := by
   unfold putM
   rw [if_neg k, if_neg (not_not_intro cr), if_neg cl]
   have en : (((bodyB m).length + 19 : Nat) : Int) = full.length := by omega
   rw [en, hfull, hpre, ← hpre, ← hfull, ← qd, hfull, hpre]
   rfl
  rw [e]
  have hl : ((full.set 16 ((full.length : Int) / 256)).set 17 ((full.length : Int) % 256)).length = full.length := by simp
  rw [hl] at hown
  have lM3 := F3.1
  exact ⟨((F3.trans F6).trans Fs).cut (fun b hb hlt => by rcases List.mem_append.1 hb with h | h; exact absurd h (sep2 b hlt); simp at h; omega), _, rfl, hown, fun a n c hv hc => by cases hv; exact Nat.le_trans lM3 hnb⟩
 have e2 : decide (m.kind = 2) = false := decide_eq_false k2
 by_cases k3 : m.kind = 3
 ·have e3 : decide (m.kind = 3) = true := decide_eq_true k3
  have hc := cr
  unfold rightM at hc
  rw [if_neg k1, if_neg k2, if_pos k3] at hc
  have w1 : m.code % 256 = m.code := by omega
  have w2 : m.sub % 256 = m.sub := by omega
  obtain ⟨z1, z2, z3, z4, z5⟩ := hz
  (repeat (first | refine st ?_ | refine σa ?_ | refine d24_Ms7 ?_ | ((first | refine σb ?_ | refine σc ?_); simp (disch := omega) only [push_cast, ↓reduceIte, reduceCtorEq, ν1, ν2, ν3, ν4, ν5, ζ1, ζ2, ζ3, ζ4, ζ5, B5.ld, mvL_ld, e1, e2, e3, wm_u8, w1, w2, buildE, memE, boxE])))
  have Pq := Fr.push M5 (.row true 1 [.int .u8 m.code, .int .u8 m.sub])
  have rq := New.row M5 (s := 1) (n := 2) (cs := ints .u8 [m.code, m.sub]) (by omega) rfl rfl (by decide)
  refine (woct_spec p v5 pre _ [m.code, m.sub] _ (A5.keep Pq (by simp)) rq.sl (by simp; omega)).mono ?_
  rintro r Ma ⟨rfl, Wa⟩
  obtain ⟨Fa, va, Aa, Na⟩ := WrS.tr F5 N5 (Wa.pre Pq)
  have Ba := B3.keep Fa (sep _ hM1)
  (repeat (first | refine st ?_ | refine σa ?_ | refine d24_Ms7 ?_ | ((first | refine σb ?_ | refine σc ?_); simp (disch := omega) only [push_cast, ↓reduceIte, reduceCtorEq, ν1, ν2, ν3, ν4, ν5, ζ1, ζ2, ζ3, ζ4, ζ5, Ba.ld, mvL_ld, buildE])))
  refine (woct_spec p va _ d m.data _ Aa (i3.data.keep Fa (fun b hb => sep b (by have := i1.data.blks b hb; omega))) (by simp; omega)).mono ?_
  rintro r M6 ⟨rfl, W6⟩
  obtain ⟨F6, v6, A6, N6⟩ := WrS.tr Fa Na W6
  have hb3 : pre ++ [m.code, m.sub] ++ m.data = pre ++ bodyB m := by
   unfold bodyB; rw [if_neg k1, if_neg k2, if_pos k3]; simp
  rw [hb3] at A6 N6
  obtain ⟨full, hfull⟩ : ∃ full, full = pre ++ bodyB m := ⟨_, rfl⟩
  have l6' : full.length = 19 + (bodyB m).length := by rw [hfull, List.length_append, lpre]
  rw [← hfull] at A6 N6
  have s6 := N6.1.sl.isSl
  have l6 := N6.1.sl.lnI
  by_cases cl : (bodyB m).length + 19 > 4096
  ·have dl : decide ((full.length : Int) > 4096) = true := decide_eq_true (by omega)
   (repeat (first | refine st ?_ | refine σa ?_ | refine d24_Ms7 ?_ | ((first | refine σb ?_ | refine σc ?_); simp (disch := omega) only [push_cast, ↓reduceIte, reduceCtorEq, ν1, ν2, ν3, ν4, ν5, ζ1, ζ2, ζ3, ζ4, ζ5, A6.at'.ld, s6, l6, dl, buildE])))
   ((first | refine retA.ret (by rfl) ?_ | refine retA.normal (by rfl) ?_); simp (disch := omega) only [push_cast, ↓reduceIte, reduceCtorEq, Nat.reduceAdd, Nat.reduceMul, Nat.reduceLeDiff, Nat.reduceLT, Nat.reduceSub, Int.reduceNe, Int.reduceEq, Int.reduceLE, Int.reduceLT, Int.reduceToNat])
   have e : putM m = ([], 6) := by unfold putM; rw [if_neg k, if_neg (not_not_intro cr), if_pos cl]
   rw [e]
   exact ⟨F3.trans F6 |>.cut (fun b hb hlt => absurd hb (sep2 b hlt)), _, rfl, (New.nil M (by omega)).keep (F3.trans F6) (by simp [blkOf])⟩
  have dl : decide ((full.length : Int) > 4096) = false := decide_eq_false (by omega)
  obtain ⟨b0, of0, cp0, pr0, rfl, hget, hoff, hc0, hcap⟩ := N6.1.openI (by intro h; rw [h] at l6'; simp at l6'; omega)
  have hnb := N6.blk b0 (by simp [blkOf, hc0])
  have hno := A6.no
  simp only [blkOf, hc0, if_false, List.mem_singleton] at hno
  have x1 := splI (k := .u8) (xs := full) hoff (i := 16) (by omega) ((full.length : Int) / 256)
  have x2 := roomI (k := .u8) (xs := full) hoff (i := 16) (by omega)
  have x3 := splI (k := .u8) (xs := full.set 16 ((full.length : Int) / 256)) hoff (i := 17) (by simp; omega) ((full.length : Int) % 256)
  have x4 := roomI (k := .u8) (xs := full.set 16 ((full.length : Int) / 256)) hoff (i := 17) (by simp; omega)
  have p8 : (2 : Int) ^ min 8 IntKind.i64.bits = 256 := by decide
  have fd : Int.fdiv (full.length : Int) 256 = (full.length : Int) / 256 := fdiv_in (by omega)
  have qd : (full.length : Int) / 256 % 256 = (full.length : Int) / 256 := by omega
  have hget2 : (M6.set b0 (.row true 1 (pr0 ++ ints .u8 (full.set 16 ((full.length : Int) / 256)))))[b0]? = some (.row true 1 (pr0 ++ ints .u8 (full.set 16 ((full.length : Int) / 256)))) := List.getElem?_set_self (List.getElem?_eq_some_iff.1 hget).1
  have Fs := Fr.set M6 b0 (.row true 1 (pr0 ++ ints .u8 ((full.set 16 ((full.length : Int) / 256)).set 17 ((full.length : Int) % 256))))
  have A7 := A6.at'.keep Fs (by simpa using hno)
  have hown := ownI (k := .u8) (xs := (full.set 16 ((full.length : Int) / 256)).set 17 ((full.length : Int) % 256)) (M := M6.set b0 (.row true 1 (pr0 ++ ints .u8 ((full.set 16 ((full.length : Int) / 256)).set 17 ((full.length : Int) % 256))))) (b := b0) (off := of0) (c := cp0) (pre := pr0) (List.getElem?_set_self (List.getElem?_eq_some_iff.1 hget).1) hoff hc0 (by simpa using hcap)
  (repeat (first | refine st ?_ | refine σa ?_ | refine d24_Ms7 ?_ | ((first | refine σb ?_ | refine σc ?_); simp (disch := omega) only [push_cast, ↓reduceIte, reduceCtorEq, ν1, ν2, ν3, ν4, ν5, ζ1, ζ2, ζ3, ζ4, ζ5, A6.at'.ld, s6, l6, dl, p8, fd, qd, wm_u8, hget, x1, x2, x3, x4, hget2, A7.ld, SlLit, Option.some.injEq, exists_eq_left', List.set_set, Blk.put, Blk.ours, Blk.cells, buildE])))
  ((first | refine retA.ret (by rfl) ?_ | refine retA.normal (by rfl) ?_); simp (disch := omega) only [push_cast, ↓reduceIte, reduceCtorEq, Nat.reduceAdd, Nat.reduceMul, Nat.reduceLeDiff, Nat.reduceLT, Nat.reduceSub, Int.reduceNe, Int.reduceEq, Int.reduceLE, Int.reduceLT, Int.reduceToNat])
  have e : putM m = ((full.set 16 ((full.length : Int) / 256)).set 17 ((full.length : Int) % 256), 0) := by
   unfold putM
   rw [if_neg k, if_neg (not_not_intro cr), if_neg cl]
   have en : (((bodyB m).length + 19 : Nat) : Int) = full.length := by omega
   rw [en, hfull, hpre, ← hpre, ← hfull, ← qd, hfull, hpre]
   rfl
  rw [e]
  have hl : ((full.set 16 ((full.length : Int) / 256)).set 17 ((full.length : Int) % 256)).length = full.length := by simp
  rw [hl] at hown
  have lM3 := F3.1
  exact ⟨((F3.trans F6).trans Fs).cut (fun b hb hlt => by rcases List.mem_append.1 hb with h | h; exact absurd h (sep2 b hlt); simp at h; omega), _, rfl, hown, fun a n c hv hc => by cases hv; exact Nat.le_trans lM3 hnb⟩
 have e3 : decide (m.kind = 3) = false := decide_eq_false k3
 have hb4 : bodyB m = [] := by unfold bodyB; rw [if_neg k1, if_neg k2, if_neg k3]
 have hx6 : pre = pre ++ bodyB m := by rw [hb4, List.append_nil]
 rw [hx6] at A5 N5
 obtain ⟨full, hfull⟩ : ∃ full, full = pre ++ bodyB m := ⟨_, rfl⟩
 have l6' : full.length = 19 + (bodyB m).length := by rw [hfull, List.length_append, lpre]
 rw [← hfull] at A5 N5
 have s6 := N5.1.sl.isSl
 have l6 := N5.1.sl.lnI
 by_cases cl : (bodyB m).length + 19 > 4096
 ·have dl : decide ((full.length : Int) > 4096) = true := decide_eq_true (by omega)
  (repeat (first | refine st ?_ | refine σa ?_ | refine d24_Ms7 ?_ | ((first | refine σb ?_ | refine σc ?_); simp (disch := omega) only [push_cast, ↓reduceIte, reduceCtorEq, ν1, ν2, ν3, ν4, ν5, ζ1, ζ2, ζ3, ζ4, ζ5, B5.ld, mvL_ld, e1, e2, e3, A5.at'.ld, s6, l6, dl, buildE])))
  ((first | refine retA.ret (by rfl) ?_ | refine retA.normal (by rfl) ?_); simp (disch := omega) only [push_cast, ↓reduceIte, reduceCtorEq, Nat.reduceAdd, Nat.reduceMul, Nat.reduceLeDiff, Nat.reduceLT, Nat.reduceSub, Int.reduceNe, Int.reduceEq, Int.reduceLE, Int.reduceLT, Int.reduceToNat])
  have e : putM m = ([], 6) := by unfold putM; rw [if_neg k, if_neg (not_not_intro cr), if_pos cl]
  rw [e]
  exact ⟨F3.trans F5 |>.cut (fun b hb hlt => absurd hb (sep2 b hlt)), _, rfl, (New.nil M (by omega)).keep (F3.trans F5) (by simp [blkOf])⟩
 have dl : decide ((full.length : Int) > 4096) = false := decide_eq_false (by omega)
 obtain ⟨b0, of0, cp0, pr0, rfl, hget, hoff, hc0, hcap⟩ := N5.1.openI (by intro h; rw [h] at l6'; simp at l6'; omega)
 have hnb := N5.blk b0 (by simp [blkOf, hc0])
 have hno := A5.no
 simp only [blkOf, hc0, if_false, List.mem_singleton] at hno
 have x1 := splI (k := .u8) (xs := full) hoff (i := 16) (by omega) ((full.length : Int) / 256)
 have x2 := roomI (k := .u8) (xs := full) hoff (i := 16) (by omega)
 have x3 := splI (k := .u8) (xs := full.set 16 ((full.length : Int) / 256)) hoff (i := 17) (by simp; omega) ((full.length : Int) % 256)
 have x4 := roomI (k := .u8) (xs := full.set 16 ((full.length : Int) / 256)) hoff (i := 17) (by simp; omega)
 have p8 : (2 : Int) ^ min 8 IntKind.i64.bits = 256 := by decide
 have fd : Int.fdiv (full.length : Int) 256 = (full.length : Int) / 256 := fdiv_in (by omega)
 have qd : (full.length : Int) / 256 % 256 = (full.length : Int) / 256 := by omega
 have hget2 : (M5.set b0 (.row true 1 (pr0 ++ ints .u8 (full.set 16 ((full.length : Int) / 256)))))[b0]? = some (.row true 1 (pr0 ++ ints .u8 (full.set 16 ((full.length : Int) / 256)))) := List.getElem?_set_self (List.getElem?_eq_some_iff.1 hget).1
 have Fs := Fr.set M5 b0 (.row true 1 (pr0 ++ ints .u8 ((full.set 16 ((full.length : Int) / 256)).set 17 ((full.length : Int) % 256))))
 have A7 := A5.at'.keep Fs (by simpa using hno)
 have hown := ownI (k := .u8) (xs := (full.set 16 ((full.length : Int) / 256)).set 17 ((full.length : Int) % 256)) (M := M5.set b0 (.row true 1 (pr0 ++ ints .u8 ((full.set 16 ((full.length : Int) / 256)).set 17 ((full.length : Int) % 256))))) (b := b0) (off := of0) (c := cp0) (pre := pr0) (List.getElem?_set_self (List.getElem?_eq_some_iff.1 hget).1) hoff hc0 (by simpa using hcap)
 (repeat (first | refine st ?_ | refine σa ?_ | refine d24_Ms7 ?_ | ((first | refine σb ?_ | refine σc ?_); simp (disch := omega) only [push_cast, ↓reduceIte, reduceCtorEq, ν1, ν2, ν3, ν4, ν5, ζ1, ζ2, ζ3, ζ4, ζ5, B5.ld, mvL_ld, e1, e2, e3, A5.at'.ld, s6, l6, dl, p8, fd, qd, wm_u8, hget, x1, x2, x3, x4, hget2, A7.ld, SlLit, Option.some.injEq, exists_eq_left', List.set_set, Blk.put, Blk.ours, Blk.cells, buildE])))
 ((first | refine retA.ret (by rfl) ?_ | refine retA.normal (by rfl) ?_); simp (disch := omega) only [push_cast, ↓reduceIte, reduceCtorEq, Nat.reduceAdd, Nat.reduceMul, Nat.reduceLeDiff, Nat.reduceLT, Nat.reduceSub, Int.reduceNe, Int.reduceEq, Int.reduceLE, Int.reduceLT, Int.reduceToNat])
 have e : putM m = ((full.set 16 ((full.length : Int) / 256)).set 17 ((full.length : Int) % 256), 0) := by
  unfold putM
  rw [if_neg k, if_neg (not_not_intro cr), if_neg cl]
  have en : (((bodyB m).length + 19 : Nat) : Int) = full.length := by omega
  rw [en, hfull, hpre, ← hpre, ← hfull, ← qd, hfull, hpre]
  rfl
 rw [e]
 have hl : ((full.set 16 ((full.length : Int) / 256)).set 17 ((full.length : Int) % 256)).length = full.length := by simp
 rw [hl] at hown
 have lM3 := F3.1
 exact ⟨((F3.trans F5).trans Fs).cut (fun b hb hlt => by rcases List.mem_append.1 hb with h | h; exact absurd h (sep2 b hlt); simp at h; omega), _, rfl, hown, fun a n c hv hc => by cases hv; exact Nat.le_trans lM3 hnb⟩
theorem mem2E : (∀ (P : Program) (ty : TypeId) (M : Mem) (X Y : Blk) (j : Nat), aload P ty (M ++ [X] ++ [Y]) (M.length + 1) j = bload P ty Y.cells j) ∧ (∀ (M : Mem) (X Y : Blk), (M ++ [X] ++ [Y])[M.length + 1]? = some Y) ∧ (∀ (M : Mem) (X Y B : Blk), (M ++ [X] ++ [Y]).set (M.length + 1) B = M ++ [X] ++ [B]) ∧ (∀ (M : Mem) (X : Blk), (M ++ [X]).length = M.length + 1) := by
 refine ⟨fun P ty M X Y j => ?_, fun M X Y => ?_, fun M X Y B => ?_, fun M X => by simp⟩
 ·have := ld_one P ty (M ++ [X]) Y j
  rwa [List.length_append, List.length_singleton] at this
 ·have := push_get (M ++ [X]) Y
  rwa [List.length_append, List.length_singleton] at this
 ·have := set_push (M ++ [X]) Y B
  rwa [List.length_append, List.length_singleton] at this
theorem mvL_len (m : MV) (g a c nw d : Value) : (mvL m g a c nw d).length = 17 := rfl
theorem mvL_one {m : MV} {g a c nw d : Value} (h : isSl g = true ∧ isSl a = true ∧ isSl c = true ∧ isSl nw = true ∧ isSl d = true) : (mvL m g a c nw d).all Value.oneCell' = true := by
 obtain ⟨h1, h2, h3, h4, h5⟩ := h
 have o1 := isSl_one h1
 have o2 := isSl_one h2
 have o3 := isSl_one h3
 have o4 := isSl_one h4
 have o5 := isSl_one h5
 simp [mvL, o1, o2, o3, o4, o5]
 simp [Value.oneCell']
theorem mreadK {v : Value} {xs : List Int} {M : Mem} {m : MV} {n f1 f2 : Int} {K : Value → Mem → Prop} (hv : Sl M v 1 (ints .u8 xs)) (hx : xs.length ≤ 10000000) (hb : ∀ x ∈ xs, 0 ≤ x ∧ x ≤ 255) (h : readM xs = (m, n, (f1, f2)))
  (hK : ∀ M' g a c nw d, Fr M M' [] → MVin M' m g a c nw d → (mvL m g a c nw d).all Value.oneCell' = true → (isSl g = true ∧ isSl a = true ∧ isSl c = true ∧ isSl nw = true ∧ isSl d = true) → (∀ b ∈ blkOf g ++ (blkOf a ++ (blkOf c ++ (blkOf nw ++ blkOf d))), M.length ≤ b) → K (.tuple ⟨[.agg ⟨mvL m g a c nw d⟩, .int .i64 n, .agg ⟨[.int .i64 f1, .int .i64 f2]⟩]⟩) M') : CallA Try.prog 18 [v] M K := by
 refine (mread_spec v xs M hv hb hx).mono ?_
 rintro r M' ⟨hF, g, a, c, nw, d, rfl, hi, hin, hbk⟩
 rw [h] at hin ⊢
 exact hK M' g a c nw d hF hin (mvL_one hi) hi hbk
theorem mputK {M : Mem} {m : MV} {g a c nw d : Value} {bs : List Int} {e : Int} {K : Value → Mem → Prop} (hi : MVin M m g a c nw d) (hg : goodM m) (hz : sizeM m) (h : putM m = (bs, e))
  (hK : ∀ M' w, Fr M M' [] → New M M' w 1 (ints .u8 bs) → K (.tuple ⟨[w, .int .i64 e]⟩) M') : CallA Try.prog 24 [.agg ⟨mvL m g a c nw d⟩] M K := by
 refine (msgput_spec m g a c nw d M hi hg hz).mono ?_
 rintro r M' ⟨hF, w, rfl, hN⟩
 rw [h] at hN ⊢
 exact hK M' w hF hN
theorem MVin.nils (M : Mem) {m : MV} (h : m.gone = [] ∧ m.attrs.path = [] ∧ m.attrs.comms = [] ∧ m.new = [] ∧ m.data = []) : MVin M m (.slice none 0 0) (.slice none 0 0) (.slice none 0 0) (.slice none 0 0) (.slice none 0 0) := by
 obtain ⟨h1, h2, h3, h4, h5⟩ := h
 exact ⟨by rw [h1]; exact Sl.nil _ (by omega), by rw [h2]; exact Sl.nil _ (by omega), by rw [h3]; exact Sl.nil _ (by omega), by rw [h4]; exact Sl.nil _ (by omega), by rw [h5]; exact Sl.nil _ (by omega)⟩
def cfL (c : CF) : List Value := [.int .u32 c.asn, .int .u32 c.id, .int .i64 c.hold, .int .u32 c.peer]
def pvL (p : PV) (vb : Value) : List Value := [.int .u32 p.conf.asn, .int .u32 p.conf.id, .int .i64 p.conf.hold, .int .u32 p.conf.peer, .int .i64 p.state, vb, .int .i64 p.hold, .int .i64 p.heard, .int .i64 p.said, .int .u32 p.id]
def acL (p : PV) (vb vo ve : Value) : List Value := [.int .u32 p.conf.asn, .int .u32 p.conf.id, .int .i64 p.conf.hold, .int .u32 p.conf.peer, .int .i64 p.state, vb, .int .i64 p.hold, .int .i64 p.heard, .int .i64 p.said, .int .u32 p.id, vo, ve]
theorem pright_spec (c : CF) (M : Mem) : CallA Try.prog 72 [.agg ⟨cfL c⟩] M fun r M' => Fr M M' [] ∧ r = .bool (decide (rightC c)) := by
 unfold cfL
 have P := Fr.push M (.box [.int .u32 c.asn, .int .u32 c.id, .int .i64 c.hold, .int .u32 c.peer])
 (refine CallA.of_body Try.func72 rfl (by rfl) ?_; simp only [Try.ntmps72, List.length_cons, List.length_nil, List.replicate, List.cons_append, List.nil_append, Nat.reduceSub, Nat.reduceAdd])
 obtain ⟨b0, e0⟩ : ∃ x, decide (c.hold = 0) = x := ⟨_, rfl⟩
 obtain ⟨b1, e1⟩ : ∃ x, decide (c.asn = 0) = x := ⟨_, rfl⟩
 obtain ⟨b2, e2⟩ : ∃ x, decide (c.id = 0) = x := ⟨_, rfl⟩
 obtain ⟨b3, e3⟩ : ∃ x, decide (c.peer = 0) = x := ⟨_, rfl⟩
 obtain ⟨f1, g1⟩ : ∃ x, decide (c.hold ≥ 3) = x := ⟨_, rfl⟩
 obtain ⟨f2, g2⟩ : ∃ x, decide (c.hold ≤ 65535) = x := ⟨_, rfl⟩
 have fin : ∀ b : Bool, (b = true ↔ rightC c) → Fr M (M ++ [.box [.int .u32 c.asn, .int .u32 c.id, .int .i64 c.hold, .int .u32 c.peer]]) [] ∧ (.bool b : Value) = .bool (decide (rightC c)) := by
  intro b h
  refine ⟨P, congrArg _ ?_⟩
  rw [Bool.eq_iff_iff, decide_eq_true_eq]; exact h
 have k0 := e0
 have k1 := e1
 have k2 := e2
 have k3 := e3
 have l1 := g1
 have l2 := g2
 cases b0 <;> cases b1 <;> cases b2 <;> cases b3 <;> cases f1 <;> cases f2
 all_goals (simp only [decide_eq_true_eq, decide_eq_false_iff_not] at k0 k1 k2 k3 l1 l2)
 all_goals first | (exfalso; omega) | skip
 all_goals ((repeat (first | refine st ?_ | refine σa ?_ | (refine σb ?_; simp (disch := omega) only [push_cast, ↓reduceIte, reduceCtorEq, ν1, ν2, ν3, ν4, ν5, ζ1, ζ2, ζ3, ζ4, ζ5, e0, e1, e2, e3, g1, g2, Bool.not_true, Bool.not_false, memE, boxE, buildE]))))
 all_goals (((first | refine retA.ret (by rfl) ?_ | refine retA.normal (by rfl) ?_); simp (disch := omega) only [push_cast, ↓reduceIte, reduceCtorEq, Nat.reduceAdd, Nat.reduceMul, Nat.reduceLeDiff, Nat.reduceLT, Nat.reduceSub, Int.reduceNe, Int.reduceEq, Int.reduceLE, Int.reduceLT, Int.reduceToNat]))
 all_goals (refine fin _ ?_; simp only [rightC, iff_true, iff_false, eq_self, reduceCtorEq, false_iff, true_iff, Bool.false_eq_true]; omega)
theorem plive_spec (p : PV) (vb : Value) (M : Mem) (hs : isSl vb = true) : CallA Try.prog 68 [.agg ⟨pvL p vb⟩] M fun r M' => Fr M M' [] ∧ r = .bool (decide (liveP p)) := by
 have g1 := isSl_cl hs
 have o1 := isSl_one hs
 simp only [Value.oneCell'] at o1
 unfold pvL
 have P := Fr.push M (.box [.int .u32 p.conf.asn, .int .u32 p.conf.id, .int .i64 p.conf.hold, .int .u32 p.conf.peer, .int .i64 p.state, vb, .int .i64 p.hold, .int .i64 p.heard, .int .i64 p.said, .int .u32 p.id])
 have A := At.push M (.box [.int .u32 p.conf.asn, .int .u32 p.conf.id, .int .i64 p.conf.hold, .int .u32 p.conf.peer, .int .i64 p.state, vb, .int .i64 p.hold, .int .i64 p.heard, .int .i64 p.said, .int .u32 p.id])
 (refine CallA.of_body Try.func68 rfl (by rfl) ?_; simp only [Try.ntmps68, List.length_cons, List.length_nil, List.replicate, List.cons_append, List.nil_append, Nat.reduceSub, Nat.reduceAdd])
 (repeat (first | refine st ?_ | refine σa ?_ | (refine σb ?_; simp (disch := omega) only [push_cast, ↓reduceIte, reduceCtorEq, ν1, ν2, ν3, ν4, ν5, ζ1, ζ2, ζ3, ζ4, ζ5, g1, o1, memE, boxE, buildE])))
 refine (pright_spec p.conf _).mono ?_
 rintro r M1 ⟨f1, rfl⟩
 have A1 := A.keep f1 (by simp)
 have F1 := P.tr f1
 by_cases c1 : rightC p.conf
 rotate_left
 ·rw [decide_eq_false c1]
  (repeat (first | refine st ?_ | refine σa ?_ | (refine σb ?_; simp (disch := omega) only [push_cast, ↓reduceIte, reduceCtorEq, ν1, ν2, ν3, ν4, ν5, ζ1, ζ2, ζ3, ζ4, ζ5])))
  ((first | refine retA.ret (by rfl) ?_ | refine retA.normal (by rfl) ?_); simp (disch := omega) only [push_cast, ↓reduceIte, reduceCtorEq, Nat.reduceAdd, Nat.reduceMul, Nat.reduceLeDiff, Nat.reduceLT, Nat.reduceSub, Int.reduceNe, Int.reduceEq, Int.reduceLE, Int.reduceLT, Int.reduceToNat])
  exact ⟨F1, by rw [decide_eq_false (fun h => c1 h.1)]⟩
 rw [decide_eq_true c1]
 by_cases c2 : p.state > 1
 rotate_left
 ·have d2 : decide (p.state > 1) = false := decide_eq_false c2
  (repeat (first | refine st ?_ | refine σa ?_ | (refine σb ?_; simp (disch := omega) only [push_cast, ↓reduceIte, reduceCtorEq, ν1, ν2, ν3, ν4, ν5, ζ1, ζ2, ζ3, ζ4, ζ5, A1.ld, d2, buildE])))
  ((first | refine retA.ret (by rfl) ?_ | refine retA.normal (by rfl) ?_); simp (disch := omega) only [push_cast, ↓reduceIte, reduceCtorEq, Nat.reduceAdd, Nat.reduceMul, Nat.reduceLeDiff, Nat.reduceLT, Nat.reduceSub, Int.reduceNe, Int.reduceEq, Int.reduceLE, Int.reduceLT, Int.reduceToNat])
  exact ⟨F1, by rw [decide_eq_false (fun h => c2 h.2.1)]⟩
 have d2 : decide (p.state > 1) = true := decide_eq_true c2
 by_cases c3 : p.state ≤ 4
 ·have d3 : decide (p.state ≤ 4) = true := decide_eq_true c3
  (repeat (first | refine st ?_ | refine σa ?_ | (refine σb ?_; simp (disch := omega) only [push_cast, ↓reduceIte, reduceCtorEq, ν1, ν2, ν3, ν4, ν5, ζ1, ζ2, ζ3, ζ4, ζ5, A1.ld, d2, d3, buildE])))
  ((first | refine retA.ret (by rfl) ?_ | refine retA.normal (by rfl) ?_); simp (disch := omega) only [push_cast, ↓reduceIte, reduceCtorEq, Nat.reduceAdd, Nat.reduceMul, Nat.reduceLeDiff, Nat.reduceLT, Nat.reduceSub, Int.reduceNe, Int.reduceEq, Int.reduceLE, Int.reduceLT, Int.reduceToNat])
  exact ⟨F1, by rw [decide_eq_true (show liveP p from ⟨c1, c2, c3⟩)]⟩
 ·have d3 : decide (p.state ≤ 4) = false := decide_eq_false c3
  (repeat (first | refine st ?_ | refine σa ?_ | (refine σb ?_; simp (disch := omega) only [push_cast, ↓reduceIte, reduceCtorEq, ν1, ν2, ν3, ν4, ν5, ζ1, ζ2, ζ3, ζ4, ζ5, A1.ld, d2, d3, buildE])))
  ((first | refine retA.ret (by rfl) ?_ | refine retA.normal (by rfl) ?_); simp (disch := omega) only [push_cast, ↓reduceIte, reduceCtorEq, Nat.reduceAdd, Nat.reduceMul, Nat.reduceLeDiff, Nat.reduceLT, Nat.reduceSub, Int.reduceNe, Int.reduceEq, Int.reduceLE, Int.reduceLT, Int.reduceToNat])
  exact ⟨F1, by rw [decide_eq_false (fun h => c3 h.2.2)]⟩
end Go.Proofs.Ytbdejnnbpdgjlaa.Ax
