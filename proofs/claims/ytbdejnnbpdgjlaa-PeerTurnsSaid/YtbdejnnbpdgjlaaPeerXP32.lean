/- Contracts of functions over the abstract machine. No conditions: lemmas alone. -/
import Derived.Test.YtbdejnnbpdgjlaaPeerXLibD
import Derived.Test.YtbdejnnbpdgjlaaPeerXP0
import Derived.Test.YtbdejnnbpdgjlaaPeerXP31
namespace Go.Proofs.Ytbdejnnbpdgjlaa.Ax
open Go Go.RowKit
open Nat renaming reduceAdd → ν1, reduceMul → ν2, reduceLeDiff → ν3, reduceLT → ν4, reduceSub → ν5
open Int renaming reduceNe → ζ1, reduceEq → ζ2, reduceLE → ζ3, reduceLT → ζ4, reduceToNat → ζ5
set_option linter.unusedVariables false
set_option linter.unusedSimpArgs false
set_option maxRecDepth 100000
set_option maxHeartbeats 20000000
attribute [local irreducible] thenA blockA scopeA retA AL AW AD ADL AH clrK CallA apure aload bload appK ptrK fnK ares szOk planOk okOps
theorem pfair_spec (q : PV) (vb : Value) (M : Mem) (hv : Sl M vb 1 (ints .u8 q.buf)) (h1 : 0 ≤ q.heard ∧ q.heard < 200000) (h2 : 0 ≤ q.said ∧ q.said < 200000) (h3 : 0 ≤ q.hold ∧ q.hold ≤ 65535) (h4 : q.buf.length < 10000) : CallA Try.prog 39 [.agg ⟨pvL q vb⟩] M fun r M' => Fr M M' [] ∧ r = .bool true := by
 have P0 := Fr.push M (.box (pvL q vb))
 have A0 := At.push M (.box (pvL q vb))
 have s0 := hv.isSl
 have n0 := hv.lnI
 have d1 : decide (q.heard ≥ 0) = true := decide_eq_true h1.1
 have d2 : decide (q.heard < 200000) = true := decide_eq_true h1.2
 have d3 : decide (q.said ≥ 0) = true := decide_eq_true h2.1
 have d4 : decide (q.said < 200000) = true := decide_eq_true h2.2
 have d5 : decide (q.hold ≥ 0) = true := decide_eq_true h3.1
 have d6 : decide (q.hold ≤ 65535) = true := decide_eq_true h3.2
 have d7 : decide ((q.buf.length : Int) < 10000) = true := decide_eq_true (by omega)
 (refine CallA.of_body Try.func39 rfl (by rfl) ?_; simp only [Try.ntmps39, List.length_cons, List.length_nil, List.replicate, List.cons_append, List.nil_append, Nat.reduceSub, Nat.reduceAdd])
 (repeat (first | refine st ?_ | refine σa ?_ | (refine σb ?_; simp (disch := omega) only [push_cast, ↓reduceIte, reduceCtorEq, ν1, ν2, ν3, ν4, ν5, ζ1, ζ2, ζ3, ζ4, ζ5, A0.ld, pvL_ld, s0, n0, d1, d2, d3, d4, d5, d6, d7, lsE])))
 ((first | refine retA.ret (by rfl) ?_ | refine retA.normal (by rfl) ?_); simp (disch := omega) only [push_cast, ↓reduceIte, reduceCtorEq, Nat.reduceAdd, Nat.reduceMul, Nat.reduceLeDiff, Nat.reduceLT, Nat.reduceSub, Int.reduceNe, Int.reduceEq, Int.reduceLE, Int.reduceLT, Int.reduceToNat])
 exact P0
theorem neBB (a b : Bool) : abin2 Try.prog .neq 4 (.bool a) (.bool b) = some (.bool (a != b)) := by kernel_rfl
def opL (o : OpV) (vb : Value) : List Value := [.int .i64 o.kind, .int .i64 o.n, .int .i64 o.code, .int .i64 o.sub, vb]
def opsL (os : List (OpV × Value)) : List Value := os.flatMap fun p => opL p.1 p.2
theorem ops_in {M : Mem} {v : Value} (h : In96 M v) : ∃ os : List (OpV × Value), Sl M v 5 (opsL os) ∧ ∀ p ∈ os, Sl M p.2 1 (ints .u8 p.1.b) ∧ bytesL p.1.b := by
 obtain ⟨w, L, e, hL, _, hs⟩ := h
 cases e
 have key : ∀ L : List (List Value), (∀ c ∈ L, (KAll [(KInt .i64), (KInt .i64), (KInt .i64), (KInt .i64), (KSl .u8)]) M c) → ∃ os : List (OpV × Value), L.flatten = opsL os ∧ ∀ p ∈ os, Sl M p.2 1 (ints .u8 p.1.b) ∧ bytesL p.1.b := by
  intro L
  induction L with
  | nil => intro _; exact ⟨[], rfl, by simp⟩
  | cons c L ih =>
   intro h
   obtain ⟨os, e1, h1⟩ := ih fun x hx => h x (by simp [hx])
   obtain ⟨_, _, rfl, ⟨k, _, rfl⟩, _, _, rfl, ⟨n, _, rfl⟩, _, _, rfl, ⟨cd, _, rfl⟩, _, _, rfl, ⟨sb, _, rfl⟩, _, _, rfl, ⟨vb, xs, rfl, hb, _, sl⟩, rfl⟩ := h c (by simp)
   refine ⟨(⟨k, n, cd, sb, xs⟩, vb) :: os, by rw [List.flatten_cons, e1]; rfl, fun p hp => ?_⟩
   rcases List.mem_cons.1 hp with rfl | hp
   ·exact ⟨sl, fun x hx => wf_u8 (hb x hx)⟩
   ·exact h1 p hp
 obtain ⟨os, e1, h1⟩ := key L hL
 exact ⟨os, by rw [← e1]; exact hs, h1⟩
theorem opsL_length (os : List (OpV × Value)) : (opsL os).length = os.length * 5 := by
 induction os with
 | nil => rfl
 | cons p os ih => show (opL p.1 p.2 ++ opsL os).length = _; rw [List.length_append, ih, List.length_cons]; show 5 + _ = _; omega
theorem opsL_cut : ∀ {os : List (OpV × Value)} {i : Nat} {p : OpV × Value}, os[i]? = some p → ((opsL os).drop (i * 5)).take 5 = opL p.1 p.2
 | [], i, w, h => by simp at h
 | x :: os, 0, w, h => by simp at h; subst h; rfl
 | x :: os, i + 1, w, h => by
  have := opsL_cut (os := os) (i := i) (p := w) (by simpa using h)
  rw [← this]
  show ((opL x.1 x.2 ++ opsL os).drop ((i + 1) * 5)).take 5 = _
  rw [show (i + 1) * 5 = 5 + i * 5 by omega, ← List.drop_drop]
  congr 1
theorem op_load {i : Nat} {os : List (OpV × Value)} {p : OpV × Value} {M : Mem} {v : Value} (hv : Sl M v 5 (opsL os)) (hi : os[i]? = some p) : aload Try.prog 98 M (sbk v) (sof v + i * 5) = some (.agg ⟨opL p.1 p.2⟩) := by
 have hl : i < os.length := (List.getElem?_eq_some_iff.1 hi).1
 refine hv.ldC (by decide) ?_
 unfold bload
 rw [Try.underlying98]
 simp only [show tsz Try.prog 98 = some 5 by kernel_rfl, Option.bind_some]
 rw [if_pos (by rw [opsL_length]; omega), opsL_cut hi]
theorem Sl.lnO {M : Mem} {v : Value} {os : List (OpV × Value)} (h : Sl M v 5 (opsL os)) : sln v = os.length := by have := h.len; rw [opsL_length] at this; omega
theorem opL_ld (P : Program) (ty : TypeId) (o : OpV) (vb : Value) (j : Nat) : bload P ty (opL o vb) j = bload P ty [.int .i64 o.kind, .int .i64 o.n, .int .i64 o.code, .int .i64 o.sub, vb] j := rfl
theorem opL_len (o : OpV) (vb : Value) : (opL o vb).length = 5 := rfl
theorem opL_one {o : OpV} {vb : Value} (h : isSl vb = true) : (opL o vb).all Value.oneCell' = true := by
 have h1 := isSl_one h
 simp only [Value.oneCell'] at h1
 simp [opL, Value.oneCell', h1]
theorem op_size {p : PV} (h : Rest p) {o : OpV} (hb : bytesL o.b) (hl : o.b.length ≤ 5000) : (opS p o).out.length ≤ 200000 ∧ (opS p o).evs.length ≤ 10000 := by
 have hpl := h.len
 have dn : ∀ (s : ST) (x y : Int), s.out.length ≤ 0 → s.evs.length ≤ 0 → (downP s x y).out.length ≤ 200000 ∧ (downP s x y).evs.length ≤ 10000 := by
  intro s x y h1 h2
  have := down_out s x y
  rw [down_evs, List.length_append]
  exact ⟨by omega, by show _ + 1 ≤ _; omega⟩
 have z : ∀ q : PV, (stepOf q).out.length ≤ 200000 ∧ (stepOf q).evs.length ≤ 10000 := fun q => ⟨by show 0 ≤ 200000; omega, by show 0 ≤ 10000; omega⟩
 unfold opS
 split
 ·unfold startP
  split
  ·have := putM_bytes (good_open h.asn h.id)
   exact ⟨by show ([] ++ (putM (openM p.conf)).1).length ≤ 200000; rw [List.nil_append]; omega, by show 0 ≤ 10000; omega⟩
  ·exact z p
 split
 ·obtain ⟨_, h2, h3, _⟩ := feedP_size h.way.buf hb (by show p.buf.length + _ ≤ _; omega)
  have h2' : (feedP p o.b).evs.length ≤ p.buf.length + o.b.length + 1 := h2
  have h3' : (feedP p o.b).out.length ≤ 21 * (p.buf.length + o.b.length) + 21 := h3
  exact ⟨by omega, by omega⟩
 split
 ·unfold tickP
  split
  ·exact z p
  split
  ·split
   ·exact dn _ 4 0 (Nat.le_refl _) (Nat.le_refl _)
   ·exact z _
  split
  ·exact z p
  split
  ·exact dn _ 4 0 (Nat.le_refl _) (Nat.le_refl _)
  split
  ·have := alive_len
   exact ⟨by show ([] ++ (putM aliveM).1).length ≤ 200000; rw [List.nil_append]; omega, by show 0 ≤ 10000; omega⟩
  ·exact z _
 split
 ·unfold stopP
  split
  ·exact dn _ _ _ (Nat.le_refl _) (Nat.le_refl _)
  ·exact z p
 ·exact z p
theorem start_evs (p : PV) : (startP p).evs = [] := by unfold startP; split <;> rfl
def TurnJ (M : Mem) (a : Nat) (S : ST) (va : Value) (all : List Int) (vo ve : Value) (M' : Mem) : Prop := ∃ u ws, Fr M M' [] ∧ At M' a (.box (pvL S.p u)) ∧ OutA M' S u vo ve ws ∧ New M M' va 1 (ints .u8 all) ∧ ∀ b, outB u vo ve ws b → b ≠ a ∧ b ∉ blkOf va ∧ M.length ≤ b
theorem turn_done {M M6 M7 : Mem} {a : Nat} {S : ST} {w vo ve va u0 : Value} {ws : List EW} {p0 : PV} {all : List Int} (F : Fr M M6 []) (A : At M6 a (.box (pvL p0 u0))) (N : New M M6 va 1 (ints .u8 all)) (hav : a ∉ blkOf va) (hMa : M.length < a) (f : Fr M6 M7 []) (h : OutA M7 S w vo ve ws) (k : ∀ b, outB w vo ve ws b → M6.length ≤ b) :
  TurnJ M a S va all vo ve (M7.set a (.box (pvL S.p w))) := by
 have fs := Fr.set M7 a (.box (pvL S.p w))
 have la := A.lt
 have lf := F.1
 have lv := N.sl.blks
 exact ⟨w, ws, ((F.tr f).trans fs).cut (fun c hc hlt => by simp at hc; omega), (A.keep f (by simp)).set _, h.keepX fs (fun b hb hx => by have := k b hb; simp at hx; omega), (N.keep f (by simp)).keep fs (fun b hb hx => hav (by simp at hx; rwa [hx] at hb)),
  fun b hb => ⟨by have := k b hb; omega, fun hx => by have := k b hb; have := lv b hx; omega, by have := k b hb; omega⟩⟩
theorem peerTurns_in (M : Mem) (v0 v1 : Value) (h0 : In70 M v0) (h1 : In96 M v1) : CallA Try.prog 11 [v0, v1] M fun r _ => r = .bool true := by
 obtain ⟨c, rfl, c1, c2, c3, c4⟩ := conf_in h0
 obtain ⟨os, hv, hos⟩ := ops_in h1
 have P0 := Fr.push M (.box (cfL c))
 have A0 := At.push M (.box (cfL c))
 (refine CallA.of_body Try.func11 rfl (by rfl) ?_; simp only [Try.ntmps11, List.length_cons, List.length_nil, List.replicate, List.cons_append, List.nil_append, Nat.reduceSub, Nat.reduceAdd])
 (repeat (first | refine st ?_ | refine σa ?_ | (refine σb ?_; simp (disch := omega) only [push_cast, ↓reduceIte, reduceCtorEq, ν1, ν2, ν3, ν4, ν5, ζ1, ζ2, ζ3, ζ4, ζ5, lsE])))
 show CallA _ _ _ (M ++ [.box (cfL c)]) _
 generalize M ++ [Blk.box (cfL c)] = M0 at *
 refine (alive27_spec _).mono ?_
 rintro r M1 ⟨F1, rfl⟩
 have F01 := P0.tr F1
 have A1 := A0.keep F1 (by simp)
 have so := hv.isSl
 have no := hv.lnO
 (repeat (first | refine st ?_ | refine σa ?_ | (refine σb ?_; simp (disch := omega) only [push_cast, ↓reduceIte, reduceCtorEq, ν1, ν2, ν3, ν4, ν5, ζ1, ζ2, ζ3, ζ4, ζ5, A1.ld, cfL_ld, Bool.not_true, buildE, lsE])))
 refine (pnew_spec c M1).mono ?_
 rintro r M2 ⟨F2, rfl⟩
 have P3 := Fr.push M2 (.box (pvL (newP c).1 (.slice none 0 0)))
 have A3 := At.push M2 (.box (pvL (newP c).1 (.slice none 0 0)))
 have one3 : (pvL (newP c).1 (.slice none 0 0)).all Value.oneCell' = true := pvL_one rfl
 have F03 := (F01.tr F2).tr P3
 by_cases rc : rightC c
 rotate_left
 ·have e : newP c = (freshP CF.zero 0, 2) := by unfold newP; rw [if_neg rc]
  rw [e] at A3 one3 ⊢
  have d0 : decide ((2 : Int) = 0) = false := rfl
  have d1 : decide ((freshP CF.zero 0).state = 0) = true := by kernel_rfl
  (repeat (first | refine st ?_ | refine σa ?_ | (refine σb ?_; simp (disch := omega) only [push_cast, ↓reduceIte, reduceCtorEq, ν1, ν2, ν3, ν4, ν5, ζ1, ζ2, ζ3, ζ4, ζ5, pvL_len, pvL_ld, one3, mem2E, d0, d1, Bool.not_true, Bool.not_false, List.drop_nil, List.append_nil, memE, boxE, boxE, buildE, lsE])))
  ((first | refine retA.ret (by rfl) ?_ | refine retA.normal (by rfl) ?_); simp (disch := omega) only [push_cast, ↓reduceIte, reduceCtorEq, Nat.reduceAdd, Nat.reduceMul, Nat.reduceLeDiff, Nat.reduceLT, Nat.reduceSub, Int.reduceNe, Int.reduceEq, Int.reduceLE, Int.reduceLT, Int.reduceToNat])
 have e : newP c = (freshP c 1, 0) := by unfold newP; rw [if_pos rc]
 rw [e] at A3 one3 P3 F03 ⊢
 have d0 : decide ((0 : Int) = 0) = true := rfl
 by_cases c40 : os.length > 40
 ·have d40 : decide ((os.length : Int) > 40) = true := decide_eq_true (by omega)
  have d1 : decide ((freshP c 1).state = 0) = false := by kernel_rfl
  (repeat (first | refine st ?_ | refine σa ?_ | (refine σb ?_; simp (disch := omega) only [push_cast, ↓reduceIte, reduceCtorEq, ν1, ν2, ν3, ν4, ν5, ζ1, ζ2, ζ3, ζ4, ζ5, pvL_len, pvL_ld, one3, mem2E, d0, d1, d40, so, no, Bool.not_true, Bool.not_false, List.drop_nil, List.append_nil, memE, boxE, boxE, buildE, lsE])))
  ((first | refine retA.ret (by rfl) ?_ | refine retA.normal (by rfl) ?_); simp (disch := omega) only [push_cast, ↓reduceIte, reduceCtorEq, Nat.reduceAdd, Nat.reduceMul, Nat.reduceLeDiff, Nat.reduceLT, Nat.reduceSub, Int.reduceNe, Int.reduceEq, Int.reduceLE, Int.reduceLT, Int.reduceToNat])
 have d40 : decide ((os.length : Int) > 40) = false := decide_eq_false (by omega)
 (repeat (first | refine st ?_ | refine σa ?_ | (refine σb ?_; simp (disch := omega) only [push_cast, ↓reduceIte, reduceCtorEq, ν1, ν2, ν3, ν4, ν5, ζ1, ζ2, ζ3, ζ4, ζ5, pvL_len, pvL_ld, one3, mem2E, d0, d40, so, no, Bool.not_true, Bool.not_false, List.drop_nil, List.append_nil, memE, boxE, boxE, buildE, lsE])))
 obtain ⟨a, ha⟩ : ∃ a, a = M2.length := ⟨_, rfl⟩
 rw [← ha] at A3 ⊢
 generalize M2 ++ [Blk.box (pvL (freshP c 1) (.slice none 0 0))] = M3 at *
 have lv := hv.blks
 have lM := F03.1
 have hMa : M.length < a := by have := F1.1; have := F2.1; rw [ha]; have h : M.length < M0.length := A0.lt; omega
 have la := A3.lt
 have rest0 : Rest (freshP c 1) := ⟨⟨rc, ⟨by show (1 : Int) ≤ 1; omega, by show (1 : Int) ≤ 4; omega⟩, rfl, Msgs.nil, (fun x hx => by cases hx), ⟨by show (0 : Int) ≤ 0; omega, by show (0 : Int) ≤ 65535; omega⟩, ⟨by show (0 : Int) ≤ 0; omega, by show (0 : Int) < 65536; omega⟩, ⟨by show (0 : Int) ≤ 0; omega, by show (0 : Int) < 65536; omega⟩⟩, by show 0 < 4096; omega, c1, c2⟩
 refine AW.loopF [4, 7, 8, 10, 11, 12, 14, 42, 43, 44, 45, 46, 47, 48, 49, 50, 51, 52, 53, 54, 55, 56, 57, 58, 59, 60, 61, 62, 63, 64, 65, 66, 67, 68, 69, 70, 71, 72, 73, 74, 75, 76, 77, 78, 79, 80, 81, 82, 83, 84, 85, 86, 87, 88, 89, 90, 91, 92, 93, 94, 95, 96, 97, 98, 99, 100, 101, 102, 103, 104, 105, 106, 107, 108, 109, 110, 111, 112, 113, 114, 115, 116, 117, 118, 119, 120, 121, 122, 123, 124, 125, 126, 127, 128, 129] (fun n g M' => ∃ i : Nat, g 42 = .int .i64 (i : Int) ∧ ∃ up, g 7 = .bool up ∧ ∃ va, g 8 = va ∧ n = os.length - i ∧ i ≤ os.length ∧ ∃ p u all, up = decide (p.state = 4) ∧ Fr M M' [] ∧ At M' a (.box (pvL p u)) ∧ Sl M' u 1 (ints .u8 p.buf) ∧ Rest p ∧ New M M' va 1 (ints .u8 all) ∧ Msgs all ∧ all.length ≤ i * 200000 ∧ (∀ b ∈ blkOf u, b ≠ a ∧ b ∉ blkOf va) ∧ a ∉ blkOf va ∧ ∀ b ∈ blkOf u, M.length ≤ b) os.length ?_ ?_
 ·exact ⟨0, rfl, false, rfl, _, rfl, rfl, by omega, freshP c 1, .slice none 0 0, [], rfl, F03, A3, Sl.nil _ (by omega), rest0, (New.nil M (by omega)).keep F03 (by simp), Msgs.nil, by simp, by simp [blkOf], by simp [blkOf], by simp [blkOf]⟩
 rintro n g M4 ⟨i, h42, up, h7, va, h8, rfl, hi, p, u, all, hup, F4, A4, su, hR, N4, hms, hall, hub, hav, hul⟩
 simp (disch := omega) only [push_cast, ↓reduceIte, reduceCtorEq, Nat.reduceAdd, Nat.reduceMul, Nat.reduceLeDiff, Nat.reduceLT, Nat.reduceSub, Int.reduceNe, Int.reduceEq, Int.reduceLE, Int.reduceLT, Int.reduceToNat, h42, h7, h8]
 by_cases ci : i < os.length
 rotate_left
 ·have dl : decide ((i : Int) < (os.length : Int)) = false := decide_eq_false (by omega)
  (repeat (first | refine st ?_ | refine σa ?_ | (refine σb ?_; simp (disch := omega) only [push_cast, ↓reduceIte, reduceCtorEq, ν1, ν2, ν3, ν4, ν5, ζ1, ζ2, ζ3, ζ4, ζ5, dl, lsE])))
  obtain ⟨ms, hms1, hms2⟩ := hms
  have hi40 : i * 200000 ≤ 8000000 := by omega
  refine AW.loopF [4, 8, 15, 16, 17, 130, 131, 132, 133, 134, 135, 136, 137, 138, 139, 140, 141, 142, 143, 144, 145, 146, 147, 148] (fun n g M' => ∃ va, g 8 = va ∧ ∃ ms : List MV, n = ms.length ∧ Sl M' va 1 (ints .u8 (ms.flatMap fun m => (putM m).1)) ∧ (∀ m ∈ ms, (putM m).2 = 0 ∧ goodM m) ∧ (ms.flatMap fun m => (putM m).1).length ≤ 8000000) ms.length ?_ ?_
  ·exact ⟨va, rfl, ms, rfl, by rw [← hms1]; exact N4.1.sl, hms2, by rw [← hms1]; omega⟩
  rintro n g M5 ⟨vw, h8', ms, rfl, hsw, hmg, hml⟩
  simp (disch := omega) only [push_cast, ↓reduceIte, reduceCtorEq, Nat.reduceAdd, Nat.reduceMul, Nat.reduceLeDiff, Nat.reduceLT, Nat.reduceSub, Int.reduceNe, Int.reduceEq, Int.reduceLE, Int.reduceLT, Int.reduceToNat, h8']
  have iw := hsw.isSl
  have nw := hsw.lnI
  cases ms with
  | nil =>
   have d0 : decide (((([] : List MV).flatMap fun m => (putM m).1).length : Int) > 0) = false := rfl
   (repeat (first | refine st ?_ | refine σa ?_ | (refine σb ?_; simp (disch := omega) only [push_cast, ↓reduceIte, reduceCtorEq, ν1, ν2, ν3, ν4, ν5, ζ1, ζ2, ζ3, ζ4, ζ5, iw, nw, d0, lsE])))
   ((first | refine retA.ret (by rfl) ?_ | refine retA.normal (by rfl) ?_); simp (disch := omega) only [push_cast, ↓reduceIte, reduceCtorEq, Nat.reduceAdd, Nat.reduceMul, Nat.reduceLeDiff, Nat.reduceLT, Nat.reduceSub, Int.reduceNe, Int.reduceEq, Int.reduceLE, Int.reduceLT, Int.reduceToNat])
  | cons m ms =>
   obtain ⟨hp, hg⟩ := hmg m (by simp)
   have hfl : ((m :: ms).flatMap fun m => (putM m).1) = (putM m).1 ++ ms.flatMap fun m => (putM m).1 := List.flatMap_cons ..
   have hrd := readM_put hp hg (ms.flatMap fun m => (putM m).1)
   rw [← hfl] at hrd
   have hpl := putM_len hp
   obtain ⟨K, hK⟩ : ∃ K, K = (putM m).1.length := ⟨_, rfl⟩
   rw [← hK] at hrd hpl
   have hby : bytesL ((m :: ms).flatMap fun m => (putM m).1) := by
    intro x hx
    obtain ⟨y, hy, hxy⟩ := List.mem_flatMap.1 hx
    obtain ⟨g1, g2⟩ := hmg y hy
    exact putM_byteL g2 (Prod.ext rfl g1) x hxy
   have hKl : K ≤ ((m :: ms).flatMap fun m => (putM m).1).length := by rw [hfl, List.length_append, hK]; omega
   have dg : decide ((((m :: ms).flatMap fun m => (putM m).1).length : Int) > 0) = true := decide_eq_true (by omega)
   have dz : decide ((K : Int) = 0) = false := decide_eq_false (by omega)
   have df : decide ((0 : Int) = 0 ∧ (0 : Int) = 0) = true := rfl
   (repeat (first | refine st ?_ | refine σa ?_ | (refine σb ?_; simp (disch := omega) only [push_cast, ↓reduceIte, reduceCtorEq, ν1, ν2, ν3, ν4, ν5, ζ1, ζ2, ζ3, ζ4, ζ5, iw, nw, dg, lsE])))
   refine mreadK hsw (by omega) hby hrd fun M6 g a' c' nw' d' f6 _ o6 _ _ => ?_
   have hsw6 := hsw.keep f6 (by simp)
   have P7 := Fr.push2 M6 (.box (mvL (ownM m) g a' c' nw' d')) (.box [.int .i64 0, .int .i64 0])
   have hsw7 := hsw6.keep P7 (by simp)
   obtain ⟨vn, hvn', pn⟩ := hsw7.pcFrom K hKl
   have sz7 := hsw7.sz
   have hdr : ((m :: ms).flatMap fun m => (putM m).1).drop K = ms.flatMap fun m => (putM m).1 := by rw [hfl, hK]; exact List.drop_left ..
   rw [hdr] at pn
   (repeat (first | refine st ?_ | refine σa ?_ | (refine σb ?_; simp (disch := omega) only [push_cast, ↓reduceIte, reduceCtorEq, ν1, ν2, ν3, ν4, ν5, ζ1, ζ2, ζ3, ζ4, ζ5, mvL_len, mvL_ld, o6, mem2E, ft_eq, aggB, dz, df, sz7, hvn', Option.map_none, Bool.not_true, Bool.not_false, List.drop_nil, List.append_nil, memE, boxE, boxE, buildE, lsE])))
   exact ⟨rfl, ms.length, Nat.lt_succ_self _, ms, rfl, pn.sl, fun x hx => hmg x (by simp [hx]), by rw [hfl, List.length_append] at hml; omega⟩
 have dl : decide ((i : Int) < (os.length : Int)) = true := decide_eq_true (by omega)
 have wi : IntKind.i64.wrap ((i : Int) + 1) = i + 1 := w_i64 (by omega) (by omega)
 have eti : ((i : Nat) : Int).toNat = i := Int.toNat_natCast i
 obtain ⟨⟨o, vb⟩, ho⟩ : ∃ w, os[i]? = some w := ⟨_, List.getElem?_eq_getElem ci⟩
 obtain ⟨hob, hoy⟩ := hos _ (List.mem_of_getElem? ho)
 have hv4 := hv.keep F4 (by simp)
 have lde := op_load hv4 ho
 simp only at lde hob hoy
 have hob4 := hob.keep F4 (by simp)
 have sb4 := hob4.isSl
 have nb4 := hob4.lnI
 have one4 := opL_one (o := o) sb4
 have P5 := Fr.push M4 (.box (opL o vb))
 have O5 := At.push M4 (.box (opL o vb))
 have A5 := A4.keep P5 (by simp)
 by_cases c5 : o.b.length > 5000
 ·have d5 : decide ((o.b.length : Int) > 5000) = true := decide_eq_true (by omega)
  (repeat (first | refine st ?_ | refine σa ?_ | (refine σb ?_; simp (disch := omega) only [push_cast, ↓reduceIte, reduceCtorEq, ν1, ν2, ν3, ν4, ν5, ζ1, ζ2, ζ3, ζ4, ζ5, dl, so, no, eti, lde, one4, opL_len, opL_ld, sb4, nb4, d5, List.drop_nil, List.append_nil, memE, boxE, boxE, buildE, lsE])))
  ((first | refine retA.ret (by rfl) ?_ | refine retA.normal (by rfl) ?_); simp (disch := omega) only [push_cast, ↓reduceIte, reduceCtorEq, Nat.reduceAdd, Nat.reduceMul, Nat.reduceLeDiff, Nat.reduceLT, Nat.reduceSub, Int.reduceNe, Int.reduceEq, Int.reduceLE, Int.reduceLT, Int.reduceToNat])
 have d5 : decide ((o.b.length : Int) > 5000) = false := decide_eq_false (by omega)
 (repeat (first | refine st ?_ | refine σa ?_ | (refine σb ?_; simp (disch := omega) only [push_cast, ↓reduceIte, reduceCtorEq, ν1, ν2, ν3, ν4, ν5, ζ1, ζ2, ζ3, ζ4, ζ5, dl, so, no, eti, lde, one4, opL_len, opL_ld, sb4, nb4, d5, List.drop_nil, List.append_nil, memE, boxE, boxE, buildE, lsE])))
 have F5 := F4.tr P5
 have N5 := N4.keep P5 (by simp)
 have su5 := su.keep P5 (by simp)
 have hob5 := hob4.keep P5 (by simp)
 generalize hM5 : M4 ++ [Blk.box (opL o vb)] = M5 at *
 have hbl := hR.len
 have hby : bytesL p.buf := hR.way.buf
 have hhold := hR.way.hold
 have hho : -9223372036854775808 ≤ p.hold ∧ p.hold ≤ 9223372036854775807 := by have h1 : 0 ≤ p.hold ∧ p.hold ≤ 65535 := hhold; omega
 refine AW.joinQ [11, 12, 54, 55, 56, 57, 58, 59, 60, 61, 62, 63, 64, 65, 66, 67, 68, 69, 70, 71, 72, 73, 74, 75, 76, 77, 78, 79, 80, 81, 82, 83, 84, 85, 86, 87, 88, 89, 90] (fun g M' => TurnJ M a (opS p o) va all (g 11) (g 12) M') ?_ ?_
 ·by_cases k1 : o.kind = 1
  ·have dk : decide (o.kind = 1) = true := decide_eq_true k1
   have eS : opS p o = startP p := by unfold opS; rw [if_pos k1]
   (repeat (first | refine st ?_ | refine σa ?_ | (refine σb ?_; simp (disch := omega) only [push_cast, ↓reduceIte, reduceCtorEq, ν1, ν2, ν3, ν4, ν5, ζ1, ζ2, ζ3, ζ4, ζ5, dk, A5.ld, O5.ld, pvL_ld, opL_ld, lsE])))
   refine pstartK (q := p) (vb := u) su5 (by omega) hR.asn hR.id eS.symm fun M7 w7 vo7 f7 hw7 ho7 k7 l7 => ?_
   have one7 : (pvL (opS p o).p w7).all Value.oneCell' = true := pvL_one hw7.isSl
   have A7 := A5.keep f7 (by simp)
   (repeat (first | refine st ?_ | refine σa ?_ | (refine σb ?_; simp (disch := omega) only [push_cast, ↓reduceIte, reduceCtorEq, ν1, ν2, ν3, ν4, ν5, ζ1, ζ2, ζ3, ζ4, ζ5, pvL_len, pvL_drop, one7, A7.get, A7.same, List.drop_nil, List.append_nil, boxE, buildE, lsE])))
   exact ⟨rfl, turn_done F5 A5 N5 hav hMa f7 (ve := .slice none 0 0) (ws := []) ⟨hw7, ho7, Sl.nil _ (by omega), by rw [eS, start_evs]; rfl, by simp⟩ (fun b hb => hb.elim (k7 b) fun hb => hb.elim (l7 b) fun hb => hb.elim (by simp [blkOf]) fun ⟨x, hx, _⟩ => by cases hx)⟩
  have dk1 : decide (o.kind = 1) = false := decide_eq_false k1
  by_cases k2 : o.kind = 2
  ·have dk : decide (o.kind = 2) = true := decide_eq_true k2
   have eS : feedP p o.b = opS p o := by unfold opS; rw [if_neg k1, if_pos k2]
   (repeat (first | refine st ?_ | refine σa ?_ | (refine σb ?_; simp (disch := omega) only [push_cast, ↓reduceIte, reduceCtorEq, ν1, ν2, ν3, ν4, ν5, ζ1, ζ2, ζ3, ζ4, ζ5, dk1, dk, A5.ld, O5.ld, pvL_ld, opL_ld, buildE, lsE])))
   refine pfeedK (q := p) (vb := u) (bs := o.b) su5 hob5 hby hoy (by omega) eS fun M7 w7 vo7 ve7 ws7 f7 h7 k7 => ?_
   have one7 : (pvL (opS p o).p w7).all Value.oneCell' = true := pvL_one h7.buf.isSl
   have A7 := A5.keep f7 (by simp)
   (repeat (first | refine st ?_ | refine σa ?_ | (refine σb ?_; simp (disch := omega) only [push_cast, ↓reduceIte, reduceCtorEq, ν1, ν2, ν3, ν4, ν5, ζ1, ζ2, ζ3, ζ4, ζ5, pvL_len, pvL_drop, one7, A7.get, A7.same, List.drop_nil, List.append_nil, boxE, buildE, lsE])))
   exact ⟨rfl, turn_done F5 A5 N5 hav hMa f7 h7 k7⟩
  have dk2 : decide (o.kind = 2) = false := decide_eq_false k2
  by_cases k3 : o.kind = 3
  ·have dk : decide (o.kind = 3) = true := decide_eq_true k3
   have eS : tickP p o.n = opS p o := by unfold opS; rw [if_neg k1, if_neg k2, if_pos k3]
   (repeat (first | refine st ?_ | refine σa ?_ | (refine σb ?_; simp (disch := omega) only [push_cast, ↓reduceIte, reduceCtorEq, ν1, ν2, ν3, ν4, ν5, ζ1, ζ2, ζ3, ζ4, ζ5, dk1, dk2, dk, A5.ld, O5.ld, pvL_ld, opL_ld, buildE, lsE])))
   refine ptickK (q := p) (vb := u) (n := o.n) su5 (by omega) hho eS fun M7 w7 vo7 ve7 ws7 f7 h7 k7 => ?_
   have one7 : (pvL (opS p o).p w7).all Value.oneCell' = true := pvL_one h7.buf.isSl
   have A7 := A5.keep f7 (by simp)
   (repeat (first | refine st ?_ | refine σa ?_ | (refine σb ?_; simp (disch := omega) only [push_cast, ↓reduceIte, reduceCtorEq, ν1, ν2, ν3, ν4, ν5, ζ1, ζ2, ζ3, ζ4, ζ5, pvL_len, pvL_drop, one7, A7.get, A7.same, List.drop_nil, List.append_nil, boxE, buildE, lsE])))
   exact ⟨rfl, turn_done F5 A5 N5 hav hMa f7 h7 k7⟩
  have dk3 : decide (o.kind = 3) = false := decide_eq_false k3
  by_cases k4 : o.kind = 4
  ·have dk : decide (o.kind = 4) = true := decide_eq_true k4
   have eS : stopP p o.code o.sub = opS p o := by unfold opS; rw [if_neg k1, if_neg k2, if_neg k3, if_pos k4]
   (repeat (first | refine st ?_ | refine σa ?_ | (refine σb ?_; simp (disch := omega) only [push_cast, ↓reduceIte, reduceCtorEq, ν1, ν2, ν3, ν4, ν5, ζ1, ζ2, ζ3, ζ4, ζ5, dk1, dk2, dk3, dk, A5.ld, O5.ld, pvL_ld, opL_ld, buildE, lsE])))
   refine pstopK (q := p) (vb := u) (c := o.code) (d := o.sub) su5 (by omega) eS fun M7 w7 vo7 ve7 ws7 f7 h7 k7 => ?_
   have one7 : (pvL (opS p o).p w7).all Value.oneCell' = true := pvL_one h7.buf.isSl
   have A7 := A5.keep f7 (by simp)
   (repeat (first | refine st ?_ | refine σa ?_ | (refine σb ?_; simp (disch := omega) only [push_cast, ↓reduceIte, reduceCtorEq, ν1, ν2, ν3, ν4, ν5, ζ1, ζ2, ζ3, ζ4, ζ5, pvL_len, pvL_drop, one7, A7.get, A7.same, List.drop_nil, List.append_nil, boxE, buildE, lsE])))
   exact ⟨rfl, turn_done F5 A5 N5 hav hMa f7 h7 k7⟩
  have dk4 : decide (o.kind = 4) = false := decide_eq_false k4
  have eS : opS p o = stepOf p := by unfold opS; rw [if_neg k1, if_neg k2, if_neg k3, if_neg k4]
  (repeat (first | refine st ?_ | refine σa ?_ | (refine σb ?_; simp (disch := omega) only [push_cast, ↓reduceIte, reduceCtorEq, ν1, ν2, ν3, ν4, ν5, ζ1, ζ2, ζ3, ζ4, ζ5, dk1, dk2, dk3, dk4, lsE])))
  refine ⟨rfl, u, [], F5, ?_⟩
  rw [eS]
  exact ⟨A5, ⟨su5, Sl.nil _ (by omega), Sl.nil _ (by omega), rfl, by simp⟩, N5, fun b hb => hb.elim (fun hb => ⟨(hub b hb).1, (hub b hb).2, hul b hb⟩) fun hb => hb.elim (by simp [blkOf]) fun hb => hb.elim (by simp [blkOf]) fun ⟨x, hx, _⟩ => by cases hx⟩
 rintro g6 M6 ⟨u6, ws, F6, A6, h6, N6, hb6⟩
 obtain ⟨vo, hvo⟩ : ∃ vo, g6 11 = vo := ⟨_, rfl⟩
 obtain ⟨ve, hve⟩ : ∃ ve, g6 12 = ve := ⟨_, rfl⟩
 rw [hvo, hve] at h6 hb6
 obtain ⟨z1, z2⟩ := op_size hR hoy (by omega)
 obtain ⟨y1, y2⟩ := op_way hR o hoy
 obtain ⟨S, hS⟩ : ∃ S, S = opS p o := ⟨_, rfl⟩
 rw [← hS] at A6 h6 z1 z2 y1 y2
 have so6 := h6.out.isSl
 have sv6 := N6.sl.isSl
 simp (disch := omega) only [push_cast, ↓reduceIte, reduceCtorEq, Nat.reduceAdd, Nat.reduceMul, Nat.reduceLeDiff, Nat.reduceLT, Nat.reduceSub, Int.reduceNe, Int.reduceEq, Int.reduceLE, Int.reduceLT, Int.reduceToNat, hvo, hve]
 (repeat (first | refine st ?_ | refine σa ?_ | (refine σb ?_; simp (disch := omega) only [push_cast, ↓reduceIte, reduceCtorEq, ν1, ν2, ν3, ν4, ν5, ζ1, ζ2, ζ3, ζ4, ζ5, so6, sv6, lsE])))
 refine appK.ints (P := Try.prog) (e := 5) (bt := 1) (z := .int .u8 0) (by kernel_rfl) (by kernel_rfl) (by kernel_rfl) (by kernel_rfl) (by decide) N6.1 h6.out (by have : i * 200000 ≤ 8000000 := (by omega); omega) ?_
 intro va7 M7 N7 F67
 have F7 := F6.new N6 F67
 have nb7 := N7.blk
 have la6 := A6.lt
 have A7 := A6.keep F67 (fun hx => hav hx)
 have h7 := h6.keepX F67 (fun b hb => (hb6 b hb).2.1)
 have N7' := N7.after F6
 have lb7 := h6.buf.blks
 have hws : ws.length = S.evs.length := h6.len
 have se7 := h7.evs.isSl
 have ne7 := h7.evs.lnE
 (repeat (first | refine st ?_ | refine σa ?_ | (refine σb ?_; simp (disch := omega) only [push_cast, ↓reduceIte, reduceCtorEq, ν1, ν2, ν3, ν4, ν5, ζ1, ζ2, ζ3, ζ4, ζ5, se7, ne7, lsE])))
 have scn := y1.scan
 rw [← hup] at scn
 obtain ⟨fin, hfin⟩ : ∃ fin, fin = decide (S.p.state = 4) := ⟨_, rfl⟩
 rw [← hfin] at scn
 refine AW.loopF [4, 7, 14, 96, 97, 98, 99, 100, 101, 102, 103, 104, 105, 106, 107, 108, 109, 110, 111, 112, 113, 114, 115, 116, 117] (fun n g M' => ∃ j : Nat, g 96 = .int .i64 (j : Int) ∧ ∃ up', g 7 = .bool up' ∧ n = ws.length - j ∧ j ≤ ws.length ∧ Fr M7 M' [] ∧ scanE (S.evs.drop j) up' = some fin) ws.length ?_ ?_
 ·exact ⟨0, rfl, up, rfl, rfl, by omega, Fr.refl _, by simpa using scn⟩
 rintro n g M8 ⟨j, h96, up', h7', rfl, hj, F8, hsc⟩
 simp (disch := omega) only [push_cast, ↓reduceIte, reduceCtorEq, Nat.reduceAdd, Nat.reduceMul, Nat.reduceLeDiff, Nat.reduceLT, Nat.reduceSub, Int.reduceNe, Int.reduceEq, Int.reduceLE, Int.reduceLT, Int.reduceToNat, h96, h7']
 have F8' := F7.tr F8
 have A8 := A7.keep F8 (by simp)
 have h8 := h7.keep F8
 have N8 := N7'.keep F8 (by simp)
 by_cases cj : j < ws.length
 rotate_left
 ·have dj : decide ((j : Int) < (ws.length : Int)) = false := decide_eq_false (by omega)
  rw [List.drop_of_length_le (by omega)] at hsc
  have hup' : up' = fin := by simpa [scanE] using hsc
  subst hup'
  have hbn : (up' != decide (S.p.state = 4)) = false := by rw [hfin]; simp
  (repeat (first | refine st ?_ | refine σa ?_ | (refine σb ?_; simp (disch := omega) only [push_cast, ↓reduceIte, reduceCtorEq, ν1, ν2, ν3, ν4, ν5, ζ1, ζ2, ζ3, ζ4, ζ5, dj, A8.ld, pvL_ld, neBB, hbn, Bool.not_true, Bool.not_false, buildE, lsE])))
  refine (pfrom_spec S.p u6 M8 h8.buf.isSl).mono ?_
  rintro r M9 ⟨F9, rfl⟩
  (repeat (first | refine st ?_ | refine σa ?_ | (refine σb ?_; simp (disch := omega) only [push_cast, ↓reduceIte, reduceCtorEq, ν1, ν2, ν3, ν4, ν5, ζ1, ζ2, ζ3, ζ4, ζ5, lsE])))
  have rst := y2
  have k1 : 0 ≤ S.p.heard ∧ S.p.heard < 65536 := y1.heard
  have k2 : 0 ≤ S.p.said ∧ S.p.said < 65536 := y1.said
  have k3 : 0 ≤ S.p.hold ∧ S.p.hold ≤ 65535 := y1.hold
  have k4 := y2.len
  refine (pfair_spec S.p u6 M9 (h8.keep F9).buf (by omega) (by omega) k3 (by omega)).mono ?_
  rintro r M10 ⟨F10, rfl⟩
  have F810 := F9.tr F10
  (repeat (first | refine st ?_ | refine σa ?_ | (refine σb ?_; simp (disch := omega) only [push_cast, ↓reduceIte, reduceCtorEq, ν1, ν2, ν3, ν4, ν5, ζ1, ζ2, ζ3, ζ4, ζ5, wi, Bool.not_true, Bool.not_false, lsE])))
  refine ⟨rfl, os.length - (i + 1), by omega, i + 1, by push_cast; rfl, _, rfl, rfl, by omega, S.p, hfin, F8'.tr F810, u6, A8.keep F810 (by simp), (h8.keep F810).buf, y2, all ++ S.out, N8.keep F810 (by simp), hms.app y1.out, ?_, ?_, ?_, ?_⟩
  ·rw [List.length_append, Nat.add_mul]; omega
  ·intro b hb
   have := lb7 b hb
   exact ⟨(hb6 b (.inl hb)).1, fun hx => by have := nb7 b hx; omega⟩
  ·intro hx
   have := nb7 a hx
   omega
  ·exact fun b hb => (hb6 b (.inl hb)).2.2
 have dj : decide ((j : Int) < (ws.length : Int)) = true := decide_eq_true (by omega)
 have wj : IntKind.i64.wrap ((j : Int) + 1) = j + 1 := w_i64 (by omega) (by omega)
 have etj : ((j : Nat) : Int).toNat = j := Int.toNat_natCast j
 obtain ⟨w, hw⟩ : ∃ w, ws[j]? = some w := ⟨_, List.getElem?_eq_getElem cj⟩
 have hwm : w ∈ ws := List.mem_of_getElem? hw
 have hdr : S.evs.drop j = w.e :: S.evs.drop (j + 1) := by
  rw [← h6.ews, ← List.map_drop, ← List.map_drop]
  have : ws.drop j = w :: ws.drop (j + 1) := by
   rw [List.drop_eq_getElem_cons cj]
   rw [List.getElem?_eq_getElem cj] at hw
   rw [Option.some.inj hw]
  rw [this]; rfl
 rw [hdr] at hsc
 have lde8 : aload Try.prog 101 M8 (sbk ve) (sof ve + j * 18) = some (.agg ⟨w.cells⟩) := h8.evs.ldC (by decide) (ev_bload hw Try.underlying101 (by kernel_rfl))
 obtain ⟨i1, i2, i3, i4, i5⟩ := (h8.good w hwm).sl
 have one8 := evcells_one ⟨i1, i2, i3, i4, i5⟩
 unfold EW.cells mvL at one8 lde8
 have P9 := Fr.push M8 (.box w.cells)
 have F9 := F8.tr P9
 simp only [scanE] at hsc
 by_cases q1 : w.e.kind = 1
 ·have dq : decide (w.e.kind = 1) = true := decide_eq_true q1
  rw [if_pos q1] at hsc
  cases up' with
  | true => simp at hsc
  | false =>
   rw [if_neg (by simp)] at hsc
   (repeat (first | refine st ?_ | refine σa ?_ | (refine σb ?_; simp (disch := omega) only [push_cast, ↓reduceIte, reduceCtorEq, ν1, ν2, ν3, ν4, ν5, ζ1, ζ2, ζ3, ζ4, ζ5, dj, se7, ne7, etj, lde8, one8, dq, wj, List.drop_nil, List.append_nil, memE, boxE, boxE, buildE, lsE])))
   exact ⟨rfl, ws.length - (j + 1), by omega, j + 1, by push_cast; rfl, _, rfl, rfl, by omega, F9, hsc⟩
 have dq1 : decide (w.e.kind = 1) = false := decide_eq_false q1
 rw [if_neg q1] at hsc
 by_cases q2 : w.e.kind = 2
 ·have dq : decide (w.e.kind = 2) = true := decide_eq_true q2
  rw [if_pos q2] at hsc
  by_cases q3 : up' = true ∧ w.e.msg.kind = 2
  ·rw [if_pos q3] at hsc
   obtain ⟨rfl, q3⟩ := q3
   have dk : decide (w.e.msg.kind = 2) = true := decide_eq_true q3
   (repeat (first | refine st ?_ | refine σa ?_ | (refine σb ?_; simp (disch := omega) only [push_cast, ↓reduceIte, reduceCtorEq, ν1, ν2, ν3, ν4, ν5, ζ1, ζ2, ζ3, ζ4, ζ5, dj, se7, ne7, etj, lde8, one8, dq1, dq, dk, wj, Bool.not_true, Bool.not_false, List.drop_nil, List.append_nil, memE, boxE, boxE, buildE, lsE])))
   exact ⟨rfl, ws.length - (j + 1), by omega, j + 1, by push_cast; rfl, _, rfl, rfl, by omega, F9, hsc⟩
  ·rw [if_neg q3] at hsc; cases hsc
 have dq2 : decide (w.e.kind = 2) = false := decide_eq_false q2
 rw [if_neg q2] at hsc
 by_cases q3 : w.e.kind = 3
 ·have dq : decide (w.e.kind = 3) = true := decide_eq_true q3
  rw [if_pos q3] at hsc
  (repeat (first | refine st ?_ | refine σa ?_ | (refine σb ?_; simp (disch := omega) only [push_cast, ↓reduceIte, reduceCtorEq, ν1, ν2, ν3, ν4, ν5, ζ1, ζ2, ζ3, ζ4, ζ5, dj, se7, ne7, etj, lde8, one8, dq1, dq2, dq, wj, List.drop_nil, List.append_nil, memE, boxE, boxE, buildE, lsE])))
  exact ⟨rfl, ws.length - (j + 1), by omega, j + 1, by push_cast; rfl, _, rfl, rfl, by omega, F9, hsc⟩
 ·rw [if_neg q3] at hsc; cases hsc
end Go.Proofs.Ytbdejnnbpdgjlaa.Ax
