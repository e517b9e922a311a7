/- Contracts of functions over the abstract machine. No conditions: lemmas alone. -/
import Derived.Test.YtbdejnnbpdgjlaaPeerPiecesLibD
import Derived.Test.YtbdejnnbpdgjlaaPeerPiecesP0
import Derived.Test.YtbdejnnbpdgjlaaPeerPiecesP22
import Derived.Test.YtbdejnnbpdgjlaaPeerPiecesP26
import Derived.Test.YtbdejnnbpdgjlaaPeerPiecesP23
import Derived.Test.YtbdejnnbpdgjlaaPeerPiecesP25
import Derived.Test.YtbdejnnbpdgjlaaPeerPiecesP12
namespace Go.Proofs.Ytbdejnnbpdgjlaa.Ax
open Go Go.RowKit
open Nat renaming reduceAdd → ν1, reduceMul → ν2, reduceLeDiff → ν3, reduceLT → ν4, reduceSub → ν5
open Int renaming reduceNe → ζ1, reduceEq → ζ2, reduceLE → ζ3, reduceLT → ζ4, reduceToNat → ζ5
set_option linter.unusedVariables false
set_option linter.unusedSimpArgs false
set_option maxRecDepth 100000
set_option maxHeartbeats 20000000
attribute [local irreducible] thenA blockA scopeA retA AL AW AD ADL AH clrK CallA apure aload bload appK ptrK fnK ares szOk planOk okOps
theorem d30_Peb {g n : Prop} (k : n) (h : n → g := by first | exact AW.dr (id := 1) (by rfl) [0, 1, 2, 3, 4, 5, 6, 8, 9, 10, 11, 12, 13, 14, 15, 7, 16, 17] (by kernel_rfl) (by kernel_rfl)) : g := h k
theorem a30_Peb {g n : Prop} (k : n) (h : n → g := by first | exact AH.apE (i := 7) rfl rfl) : g := h k
theorem appBE {M : Mem} {v : Value} {xs : List Int} {C : Value → Mem → Prop} (hv : Sl M v 1 (ints .u8 xs)) (hl : xs.length ≤ 100000000) (h : ∀ v' M', New M M' v' 1 (ints .u8 xs) → Fr M M' [] → Fr (M ++ [.row true 1 []]) M' [] → C v' M') : appK Try.prog 39 39 (.slice (some ⟨M.length, 0, none⟩) 0 0) v (M ++ [.row true 1 []]) C := by
 have r0 := New.row M (s := 1) (n := 0) (cs := []) (by omega) rfl rfl (by decide)
 refine appK.ints (P := Try.prog) (e := 5) (bt := 1) (z := .int .u8 0) (by kernel_rfl) (by kernel_rfl) (by kernel_rfl) (by kernel_rfl) (by decide) (xs := []) r0.1 (hv.keep (Fr.push M (.row true 1 [])) (by simp)) (by simp; omega) ?_
 intro v' M' hN hF
 rw [List.nil_append] at hN
 exact h v' M' (hN.after (Fr.push M (.row true 1 []))) ((Fr.push M (.row true 1 [])).tr hF) hF
def zeroL : List Value := [.int .u32 0, .int .u32 0, .int .i64 0, .int .u32 0, .int .i64 0, .slice none 0 0, .int .i64 0, .int .i64 0, .int .i64 0, .int .u32 0]
theorem pfrom_spec (q : PV) (vb : Value) (M : Mem) (hs : isSl vb = true) : CallA Try.prog 32 [.agg ⟨pvL q vb⟩] M fun r M' => Fr M M' [] ∧ r = .agg ⟨pvL q vb⟩ := by
 have g1 := isSl_cl hs
 have o1 := isSl_one hs
 simp only [Value.oneCell'] at o1
 unfold pvL
 (refine CallA.of_body Try.func32 rfl (by rfl) ?_; simp only [Try.ntmps32, List.length_cons, List.length_nil, List.replicate, List.cons_append, List.nil_append, Nat.reduceSub, Nat.reduceAdd])
 (repeat (first | refine st ?_ | refine σa ?_ | (refine σb ?_; simp (disch := omega) only [push_cast, ↓reduceIte, reduceCtorEq, ν1, ν2, ν3, ν4, ν5, ζ1, ζ2, ζ3, ζ4, ζ5, g1, o1, mem2E, List.drop_nil, List.append_nil, memE, boxE, boxE, buildE, lsE])))
 ((first | refine retA.ret (by rfl) ?_ | refine retA.normal (by rfl) ?_); simp (disch := omega) only [push_cast, ↓reduceIte, reduceCtorEq, Nat.reduceAdd, Nat.reduceMul, Nat.reduceLeDiff, Nat.reduceLT, Nat.reduceSub, Int.reduceNe, Int.reduceEq, Int.reduceLE, Int.reduceLT, Int.reduceToNat, mem2E, g1, o1, memE, boxE, buildE])
 exact Fr.push2 _ _ _
theorem pto_spec (q : PV) (vb : Value) (M : Mem) (hv : Sl M vb 1 (ints .u8 q.buf)) (hl : q.buf.length ≤ 1000000) : CallA Try.prog 30 [.agg ⟨pvL q vb⟩] M fun r M' => Fr M M' [] ∧ ∃ w, r = .agg ⟨pvL q w⟩ ∧ New M M' w 1 (ints .u8 q.buf) := by
 have g1 := isSl_cl hv.isSl
 have o1 := isSl_one hv.isSl
 simp only [Value.oneCell'] at o1
 have P2 := Fr.push2 M (.box (pvL q vb)) (.box zeroL)
 have A2 := (At.push M (.box (pvL q vb))).keep (Fr.push _ (.box zeroL)) (by simp)
 have B2 := At.push (M ++ [.box (pvL q vb)]) (.box zeroL)
 rw [List.length_append, List.length_singleton] at B2
 unfold pvL zeroL at P2 A2 B2
 unfold pvL
 (refine CallA.of_body Try.func30 rfl (by rfl) ?_; simp only [Try.ntmps30, List.length_cons, List.length_nil, List.replicate, List.cons_append, List.nil_append, Nat.reduceSub, Nat.reduceAdd])
 (repeat (first | refine st ?_ | refine σa ?_ | (refine σb ?_; simp (disch := omega) only [push_cast, ↓reduceIte, reduceCtorEq, ν1, ν2, ν3, ν4, ν5, ζ1, ζ2, ζ3, ζ4, ζ5, mem2E, g1, o1, buildE, lsE])))
 generalize M ++ [Blk.box [.int .u32 q.conf.asn, .int .u32 q.conf.id, .int .i64 q.conf.hold, .int .u32 q.conf.peer, .int .i64 q.state, vb, .int .i64 q.hold, .int .i64 q.heard, .int .i64 q.said, .int .u32 q.id]] ++ [Blk.box [.int .u32 0, .int .u32 0, .int .i64 0, .int .u32 0, .int .i64 0, .slice none 0 0, .int .i64 0, .int .i64 0, .int .i64 0, .int .u32 0]] = M2 at *
 obtain ⟨t, ht⟩ : ∃ t, t = M.length := ⟨_, rfl⟩
 rw [← ht] at A2 B2 ⊢
 have Ar := A2.keep (Fr.push M2 (.row true 1 [])) (by simp)
 have Br := B2.keep (Fr.push M2 (.row true 1 [])) (by simp)
 (repeat (first | refine st ?_ | refine σa ?_ | refine d30_Peb ?_ | ((first | refine a30_Peb ?_ | refine σb ?_ | refine σc ?_); simp (disch := omega) only [push_cast, ↓reduceIte, reduceCtorEq, ν1, ν2, ν3, ν4, ν5, ζ1, ζ2, ζ3, ζ4, ζ5, A2.ld, Ar.ld, g1, o1, buildE, lsE])))
 refine appBE (hv.keep P2 (by simp)) (by omega) fun w M3 n3 f3 f3' => ?_
 refine ⟨f3', ?_⟩
 have A3 := A2.keep f3 (by simp)
 have B3 := B2.keep f3 (by simp)
 have c3 := isSl_cl n3.1.sl.isSl
 have o3 := isSl_one n3.1.sl.isSl
 simp only [Value.oneCell'] at o3
 have Fs := Fr.set M3 (t + 1) (.box (pvL q w))
 have Bs := B3.set (.box (pvL q w))
 have l2 := B2.lt
 have nw := n3.1.keep Fs (fun b hb hx => by have := n3.blk b hb; simp at hx; omega)
 unfold pvL at Fs Bs nw
 (repeat (first | refine st ?_ | refine σa ?_ | refine d30_Peb ?_ | ((first | refine a30_Peb ?_ | refine σb ?_ | refine σc ?_); simp (disch := omega) only [push_cast, ↓reduceIte, reduceCtorEq, ν1, ν2, ν3, ν4, ν5, ζ1, ζ2, ζ3, ζ4, ζ5, A3.ld, B3.get, B3.same, g1, o1, c3, o3, List.drop_nil, List.append_nil, boxE, buildE, lsE])))
 ((first | refine retA.ret (by rfl) ?_ | refine retA.normal (by rfl) ?_); simp (disch := omega) only [push_cast, ↓reduceIte, reduceCtorEq, Nat.reduceAdd, Nat.reduceMul, Nat.reduceLeDiff, Nat.reduceLT, Nat.reduceSub, Int.reduceNe, Int.reduceEq, Int.reduceLE, Int.reduceLT, Int.reduceToNat, Bs.ld, c3, o3, buildE])
 refine ⟨((P2.trans f3).trans Fs).cut (fun c hc hlt => by simp at hc; omega), w, rfl, nw, ?_⟩
 intro a n c e hc
 have := n3.2 a n c e hc
 have := P2.1
 omega
def greatP (q : PV) (bs : List Int) : Prop := q.buf.length > 6000 ∨ bs.length > 6000
instance (q : PV) (bs : List Int) : Decidable (greatP q bs) := by unfold greatP; infer_instance
theorem pgreat_spec (q : PV) (vb vx : Value) (bs : List Int) (M : Mem) (hv : Sl M vb 1 (ints .u8 q.buf)) (hx : Sl M vx 1 (ints .u8 bs)) : CallA Try.prog 28 [.agg ⟨pvL q vb⟩, vx] M fun r M' => Fr M M' [] ∧ r = .bool (decide (greatP q bs)) := by
 have g1 := isSl_cl hv.isSl
 have o1 := isSl_one hv.isSl
 simp only [Value.oneCell'] at o1
 have P0 := Fr.push M (.box (pvL q vb))
 have hs1 := (hv.keep P0 (by simp)).isSl
 have hn1 := (hv.keep P0 (by simp)).lnI
 have hs2 := (hx.keep P0 (by simp)).isSl
 have hn2 := (hx.keep P0 (by simp)).lnI
 unfold pvL at P0
 unfold pvL
 (refine CallA.of_body Try.func28 rfl (by rfl) ?_; simp only [Try.ntmps28, List.length_cons, List.length_nil, List.replicate, List.cons_append, List.nil_append, Nat.reduceSub, Nat.reduceAdd])
 by_cases c1 : q.buf.length > 6000
 ·have d1 : decide ((q.buf.length : Int) > 6000) = true := decide_eq_true (by omega)
  (repeat (first | refine st ?_ | refine σa ?_ | (refine σb ?_; simp (disch := omega) only [push_cast, ↓reduceIte, reduceCtorEq, ν1, ν2, ν3, ν4, ν5, ζ1, ζ2, ζ3, ζ4, ζ5, g1, o1, hs1, hn1, d1, memE, boxE, buildE, lsE])))
  ((first | refine retA.ret (by rfl) ?_ | refine retA.normal (by rfl) ?_); simp (disch := omega) only [push_cast, ↓reduceIte, reduceCtorEq, Nat.reduceAdd, Nat.reduceMul, Nat.reduceLeDiff, Nat.reduceLT, Nat.reduceSub, Int.reduceNe, Int.reduceEq, Int.reduceLE, Int.reduceLT, Int.reduceToNat])
  exact ⟨P0, by rw [decide_eq_true (show greatP q bs from .inl c1)]⟩
 have d1 : decide ((q.buf.length : Int) > 6000) = false := decide_eq_false (by omega)
 by_cases c2 : bs.length > 6000
 ·have d2 : decide ((bs.length : Int) > 6000) = true := decide_eq_true (by omega)
  (repeat (first | refine st ?_ | refine σa ?_ | (refine σb ?_; simp (disch := omega) only [push_cast, ↓reduceIte, reduceCtorEq, ν1, ν2, ν3, ν4, ν5, ζ1, ζ2, ζ3, ζ4, ζ5, g1, o1, hs1, hn1, hs2, hn2, d1, d2, memE, boxE, buildE, lsE])))
  ((first | refine retA.ret (by rfl) ?_ | refine retA.normal (by rfl) ?_); simp (disch := omega) only [push_cast, ↓reduceIte, reduceCtorEq, Nat.reduceAdd, Nat.reduceMul, Nat.reduceLeDiff, Nat.reduceLT, Nat.reduceSub, Int.reduceNe, Int.reduceEq, Int.reduceLE, Int.reduceLT, Int.reduceToNat])
  exact ⟨P0, by rw [decide_eq_true (show greatP q bs from .inr c2)]⟩
 ·have d2 : decide ((bs.length : Int) > 6000) = false := decide_eq_false (by omega)
  (repeat (first | refine st ?_ | refine σa ?_ | (refine σb ?_; simp (disch := omega) only [push_cast, ↓reduceIte, reduceCtorEq, ν1, ν2, ν3, ν4, ν5, ζ1, ζ2, ζ3, ζ4, ζ5, g1, o1, hs1, hn1, hs2, hn2, d1, d2, memE, boxE, buildE, lsE])))
  ((first | refine retA.ret (by rfl) ?_ | refine retA.normal (by rfl) ?_); simp (disch := omega) only [push_cast, ↓reduceIte, reduceCtorEq, Nat.reduceAdd, Nat.reduceMul, Nat.reduceLeDiff, Nat.reduceLT, Nat.reduceSub, Int.reduceNe, Int.reduceEq, Int.reduceLE, Int.reduceLT, Int.reduceToNat])
  exact ⟨P0, by rw [decide_eq_false (show ¬ greatP q bs from fun h => h.elim c1 c2)]⟩
theorem rc_eq (a b c d : Int) : aeqV Try.prog 3 82 (.agg ⟨[.int .u32 a, .int .u32 b, .int .i64 c, .int .u32 d]⟩) (.agg ⟨[.int .u32 a, .int .u32 b, .int .i64 c, .int .u32 d]⟩) = some true := by
 have h : aeqV Try.prog 3 82 (.agg ⟨[.int .u32 a, .int .u32 b, .int .i64 c, .int .u32 d]⟩) (.agg ⟨[.int .u32 a, .int .u32 b, .int .i64 c, .int .u32 d]⟩) = if (a == a) = true then (if (b == b) = true then (if (c == c) = true then (if (d == d) = true then some true else some false) else some false) else some false) else some false := by kernel_rfl
 rw [h]; simp
theorem psame_eq (q : PV) (v w : Value) (M : Mem) (hv : Sl M v 1 (ints .u8 q.buf)) (hw : Sl M w 1 (ints .u8 q.buf)) (hl : q.buf.length ≤ 1000000) : CallA Try.prog 31 [.agg ⟨pvL q v⟩, .agg ⟨pvL q w⟩] M fun r M' => Fr M M' [] ∧ r = .bool true := by
 have g1 := isSl_cl hv.isSl
 have k1 := isSl_cl hw.isSl
 have o1 := isSl_one hv.isSl
 have o2 := isSl_one hw.isSl
 simp only [Value.oneCell'] at o1 o2
 have e1 : decide (q.state = q.state) = true := decide_eq_true rfl
 have e2 : decide (q.hold = q.hold) = true := decide_eq_true rfl
 have e3 : decide (q.heard = q.heard) = true := decide_eq_true rfl
 have e4 : decide (q.said = q.said) = true := decide_eq_true rfl
 have e5 : decide (q.id = q.id) = true := decide_eq_true rfl
 have P2 := Fr.push2 M (.box (pvL q v)) (.box (pvL q w))
 have A2 := (At.push M (.box (pvL q v))).keep (Fr.push _ (.box (pvL q w))) (by simp)
 have B2 := At.push (M ++ [.box (pvL q v)]) (.box (pvL q w))
 unfold pvL at P2 A2 B2
 unfold pvL
 have hv2 := hv.keep P2 (by simp)
 have hw2 := hw.keep P2 (by simp)
 (refine CallA.of_body Try.func31 rfl (by rfl) ?_; simp only [Try.ntmps31, List.length_cons, List.length_nil, List.replicate, List.cons_append, List.nil_append, Nat.reduceSub, Nat.reduceAdd])
 (repeat (first | refine st ?_ | refine σa ?_ | (refine σb ?_; simp (disch := omega) only [push_cast, ↓reduceIte, reduceCtorEq, ν1, ν2, ν3, ν4, ν5, ζ1, ζ2, ζ3, ζ4, ζ5, rc_eq, aggB, e1, e2, e3, e4, e5, g1, k1, o1, o2, A2.ld, B2.ld, buildE, lsE])))
 refine (bytes_spec v w q.buf q.buf _ hv2 hw2 (by omega)).mono ?_
 rintro r M6 ⟨rfl, rfl⟩
 have e9 : decide (q.buf = q.buf) = true := decide_eq_true rfl
 (repeat (first | refine st ?_ | refine σa ?_ | (refine σb ?_; simp (disch := omega) only [push_cast, ↓reduceIte, reduceCtorEq, ν1, ν2, ν3, ν4, ν5, ζ1, ζ2, ζ3, ζ4, ζ5, e9, lsE])))
 ((first | refine retA.ret (by rfl) ?_ | refine retA.normal (by rfl) ?_); simp (disch := omega) only [push_cast, ↓reduceIte, reduceCtorEq, Nat.reduceAdd, Nat.reduceMul, Nat.reduceLeDiff, Nat.reduceLT, Nat.reduceSub, Int.reduceNe, Int.reduceEq, Int.reduceLE, Int.reduceLT, Int.reduceToNat])
 exact P2
theorem d33_Pec {g n : Prop} (k : n) (h : n → g := by first | exact AW.dr (id := 6) (by rfl) [0, 1, 2, 3, 4, 5, 6, 7, 8, 9, 10, 11, 12, 13, 14, 15, 16, 17, 18, 19, 20, 21, 22, 23, 24] (by kernel_rfl) (by kernel_rfl)) : g := h k
theorem Sl.ldC {P : Program} {ty : TypeId} {M : Mem} {v u : Value} {s j : Nat} {cs : List Value} (h : Sl M v s cs) (h0 : tsz P ty ≠ some 0) (hb : bload P ty cs j = some u) : aload P ty M (sbk v) (sof v + j) = some u := by
 have agg : ((tsz P ty).bind fun n => if j + n ≤ cs.length then some (Value.agg ⟨(cs.drop j).take n⟩) else none) = some u → ((tsz P ty).bind fun n => (Ax.cellsM M (sbk v) (sof v + j) n).map fun l => Value.agg ⟨l⟩) = some u := by
  intro hb
  cases hz : tsz P ty with
  | none => rw [hz] at hb; cases hb
  | some n =>
   rw [hz] at hb h0
   simp only [Option.bind_some] at hb ⊢
   split at hb
   ·rename_i hle
    rw [h.cellsM (Nat.pos_of_ne_zero fun e => h0 (by rw [e])) hle]
    exact hb
   ·cases hb
 unfold bload at hb
 unfold aload
 split at hb
 ·rename_i e; rw [e]; exact agg hb
 ·rename_i e; rw [e]; exact agg hb
 ·rename_i d h1 h2 e
  split
  ·rename_i e'; rw [e] at e'; exact absurd (Option.some.inj e') (h1 _)
  ·rename_i e'; rw [e] at e'; exact absurd (Option.some.inj e') (h2 _ _)
  ·exact h.cellM hb
  ·rename_i e'; rw [e] at e'; cases e'
 ·cases hb
theorem evsL_cut : ∀ {ws : List EW} {i : Nat} {w : EW}, ws[i]? = some w → ((evsL ws).drop (i * 18)).take 18 = w.cells
 | [], i, w, h => by simp at h
 | x :: ws, 0, w, h => by
  simp at h; subst h; rfl
 | x :: ws, i + 1, w, h => by
  have := evsL_cut (ws := ws) (i := i) (w := w) (by simpa using h)
  rw [← this]
  show ((x.cells ++ evsL ws).drop ((i + 1) * 18)).take 18 = _
  rw [show (i + 1) * 18 = 18 + i * 18 by omega, ← List.drop_drop]
  congr 1
theorem Sl.lnE {M : Mem} {v : Value} {ws : List EW} (h : Sl M v 18 (evsL ws)) : sln v = ws.length := by have := h.len; rw [evsL_length] at this; omega
theorem ev_bload {i : Nat} {ws : List EW} {w : EW} (hi : ws[i]? = some w) {ty : TypeId} {fs : Array Field} (hu : Try.prog.underlying ty = some (.struct fs)) (hz : tsz Try.prog ty = some 18) : bload Try.prog ty (evsL ws) (i * 18) = some (.agg ⟨w.cells⟩) := by
 have hl : i < ws.length := (List.getElem?_eq_some_iff.1 hi).1
 unfold bload
 rw [hu]
 simp only [hz, Option.bind_some]
 rw [if_pos (by rw [evsL_length]; omega), evsL_cut hi]
theorem EW.good.sl {M : Mem} {w : EW} (h : w.good M) : isSl w.g = true ∧ isSl w.a = true ∧ isSl w.c = true ∧ isSl w.n = true ∧ isSl w.d = true := ⟨h.gone.isSl, h.path.isSl, h.comms.isSl, h.new.isSl, h.data.isSl⟩
theorem evcells_one {w : EW} (h : isSl w.g = true ∧ isSl w.a = true ∧ isSl w.c = true ∧ isSl w.n = true ∧ isSl w.d = true) : w.cells.all Value.oneCell' = true := by
 show (Value.oneCell' (.int .i64 w.e.kind) && (mvL w.e.msg w.g w.a w.c w.n w.d).all Value.oneCell') = true
 rw [mvL_one h]; rfl
theorem pevents_spec (v : Value) (ws : List EW) (M : Mem) (hv : Sl M v 18 (evsL ws)) (hg : ∀ w ∈ ws, w.good M) (hl : ws.length ≤ 1000000) : CallA Try.prog 34 [v] M fun r M' => Fr M M' [] ∧ New M M' r 18 (evsL ws) := by
 have hs := hv.isSl
 have hn := hv.lnE
 (refine CallA.of_body Try.func34 rfl (by rfl) ?_; simp only [Try.ntmps34, List.length_cons, List.length_nil, List.replicate, List.cons_append, List.nil_append, Nat.reduceSub, Nat.reduceAdd])
 (repeat (first | refine st ?_ | refine σa ?_ | (refine σb ?_; simp (disch := omega) only [push_cast, ↓reduceIte, reduceCtorEq, ν1, ν2, ν3, ν4, ν5, ζ1, ζ2, ζ3, ζ4, ζ5, hs, hn, lsE])))
 refine AW.loopF [3, 5, 6, 9, 10, 11, 12, 13, 14, 15, 16, 17, 18, 19, 20, 21, 22, 23, 24, 25, 26, 27, 28, 29, 30, 31, 32, 33, 34, 35, 36, 37, 38, 39, 40, 41, 42] (fun n g M' => ∃ i : Nat, g 9 = .int .i64 (i : Int) ∧ ∃ o, g 3 = o ∧ n = ws.length - i ∧ i ≤ ws.length ∧ Fr M M' [] ∧ New M M' o 18 (evsL (ws.take i))) ws.length ?_ ?_
 ·exact ⟨0, rfl, _, rfl, by omega, by omega, Fr.refl _, by simpa [evsL] using New.nil M (s := 18) (by omega)⟩
 rintro n g M1 ⟨i, h9, o, h3, rfl, hi, F1, N1⟩
 simp (disch := omega) only [push_cast, ↓reduceIte, reduceCtorEq, Nat.reduceAdd, Nat.reduceMul, Nat.reduceLeDiff, Nat.reduceLT, Nat.reduceSub, Int.reduceNe, Int.reduceEq, Int.reduceLE, Int.reduceLT, Int.reduceToNat, h9, h3]
 by_cases ci : i < ws.length
 rotate_left
 ·have d : decide ((i : Int) < (ws.length : Int)) = false := decide_eq_false (by omega)
  have so := N1.sl.isSl
  (repeat (first | refine st ?_ | refine σa ?_ | (refine σb ?_; simp (disch := omega) only [push_cast, ↓reduceIte, reduceCtorEq, ν1, ν2, ν3, ν4, ν5, ζ1, ζ2, ζ3, ζ4, ζ5, d, so, lsE])))
  ((first | refine retA.ret (by rfl) ?_ | refine retA.normal (by rfl) ?_); simp (disch := omega) only [push_cast, ↓reduceIte, reduceCtorEq, Nat.reduceAdd, Nat.reduceMul, Nat.reduceLeDiff, Nat.reduceLT, Nat.reduceSub, Int.reduceNe, Int.reduceEq, Int.reduceLE, Int.reduceLT, Int.reduceToNat])
  refine ⟨F1, ?_⟩
  rwa [List.take_of_length_le (by omega)] at N1
 have d : decide ((i : Int) < (ws.length : Int)) = true := decide_eq_true (by omega)
 have wi : IntKind.i64.wrap ((i : Int) + 1) = i + 1 := w_i64 (by omega) (by omega)
 have eti : ((i : Nat) : Int).toNat = i := Int.toNat_natCast i
 obtain ⟨w, hw⟩ : ∃ w, ws[i]? = some w := ⟨_, List.getElem?_eq_getElem ci⟩
 have hwm : w ∈ ws := List.mem_of_getElem? hw
 have hv1 := hv.keep F1 (by simp)
 have lde : aload Try.prog 101 M1 (sbk v) (sof v + i * 18) = some (.agg ⟨w.cells⟩) := hv1.ldC (by decide) (ev_bload hw Try.underlying101 (by kernel_rfl))
 obtain ⟨i1, i2, i3, i4, i5⟩ := ((hg w hwm).keep F1 (by simp)).sl
 have o1 := evcells_one ⟨i1, i2, i3, i4, i5⟩
 have g1 := isSl_cl i1
 have g2 := isSl_cl i2
 have g3 := isSl_cl i3
 have g4 := isSl_cl i4
 have g5 := isSl_cl i5
 have so := N1.sl.isSl
 unfold EW.cells mvL at o1 lde
 have p1 := isSl_one i1
 have p2 := isSl_one i2
 have p3 := isSl_one i3
 have p4 := isSl_one i4
 have p5 := isSl_one i5
 simp only [Value.oneCell'] at p1 p2 p3 p4 p5
 (repeat (first | refine st ?_ | refine σa ?_ | (refine σb ?_; simp (disch := omega) only [push_cast, ↓reduceIte, reduceCtorEq, ν1, ν2, ν3, ν4, ν5, ζ1, ζ2, ζ3, ζ4, ζ5, hs, hn, d, eti, lde, o1, p1, p2, p3, p4, p5, g1, g2, g3, g4, g5, so, mem2E, List.drop_nil, List.append_nil, memE, boxE, boxE, buildE, lsE])))
 have F3 : Fr M1 (M1 ++ [.box w.cells] ++ [.box (mvL w.e.msg w.g w.a w.c w.n w.d)]) [] := Fr.push2 _ _ _
 have o1' := evcells_one ⟨i1, i2, i3, i4, i5⟩
 have hr := New.row (M1 ++ [.box w.cells] ++ [.box (mvL w.e.msg w.g w.a w.c w.n w.d)]) (s := 18) (n := 1) (cs := w.cells) (by omega) rfl o1' (by decide)
 have Fr3 := F3.tr (Fr.push (M1 ++ [.box w.cells] ++ [.box (mvL w.e.msg w.g w.a w.c w.n w.d)]) (.row true 18 w.cells))
 have hlen : (M1 ++ [Blk.box w.cells] ++ [Blk.box (mvL w.e.msg w.g w.a w.c w.n w.d)]).length = M1.length + 1 + 1 := by simp
 rw [hlen] at hr
 refine appK.elems (P := Try.prog) (e := 147) (s := 18) (bt := 192) (z := [.int .i64 0, .int .i64 0, .int .u32 0, .int .u32 0, .int .i64 0, .slice none 0 0, .int .i64 0, .slice none 0 0, .int .u32 0, .int .u32 0, .int .u32 0, .bool false, .bool false, .slice none 0 0, .slice none 0 0, .int .i64 0, .int .i64 0, .slice none 0 0]) (by kernel_rfl) (by kernel_rfl) (by kernel_rfl) rfl (by kernel_rfl) (by decide) (N1.1.keep Fr3 (by simp)) hr.sl (by rw [evsL_length, List.length_take]; show ((min i ws.length) * 18 + 18) * _ ≤ _; omega) ?_
 intro v' M4 hN hF
 have s4 := hN.1.sl.isSl
 (repeat (first | refine st ?_ | refine σa ?_ | (refine σb ?_; simp (disch := omega) only [push_cast, ↓reduceIte, reduceCtorEq, ν1, ν2, ν3, ν4, ν5, ζ1, ζ2, ζ3, ζ4, ζ5, wi, s4, lsE])))
 refine ⟨rfl, ws.length - (i + 1), by omega, i + 1, by push_cast; rfl, rfl, by omega, (F1.tr Fr3).new (N1.keep Fr3 (by simp)) hF, ?_⟩
 have e : ws.take (i + 1) = ws.take i ++ [w] := by rw [List.take_add_one, hw]; rfl
 rw [e, evsL_snoc]
 exact hN.after (F1.tr Fr3)
theorem ev_kind {i : Nat} {ws : List EW} {w : EW} (hi : ws[i]? = some w) : (evsL ws)[i * 18]? = some (.int .i64 w.e.kind) := by
 have h := evsL_cut hi
 have := congrArg (fun l => l[0]?) h
 simp only [List.getElem?_take, List.getElem?_drop] at this
 rw [if_pos (by omega), Nat.add_zero] at this
 exact this
theorem ev_msg {i : Nat} {ws : List EW} {w : EW} (hi : ws[i]? = some w) : ((evsL ws).drop (i * 18 + 1)).take 17 = mvL w.e.msg w.g w.a w.c w.n w.d := by
 have h := evsL_cut hi
 have := congrArg (List.drop 1) h
 rw [List.drop_take, List.drop_drop] at this
 exact this
theorem ev_kload {i : Nat} {ws : List EW} {w : EW} {M : Mem} {v : Value} (hv : Sl M v 18 (evsL ws)) (hi : ws[i]? = some w) : aload Try.prog 3 M (sbk v) (sof v + i * 18) = some (.int .i64 w.e.kind) :=
 hv.ldC (by decide) (by unfold bload; rw [show Try.prog.underlying 3 = some (.int .i64) by kernel_rfl]; exact ev_kind hi)
theorem ev_mload {i : Nat} {ws : List EW} {w : EW} {M : Mem} {v : Value} (hv : Sl M v 18 (evsL ws)) (hi : ws[i]? = some w) : aload Try.prog 51 M (sbk v) (sof v + i * 18 + 1) = some (.agg ⟨mvL w.e.msg w.g w.a w.c w.n w.d⟩) := by
 rw [Nat.add_assoc]
 have hl : i < ws.length := (List.getElem?_eq_some_iff.1 hi).1
 refine hv.ldC (by decide) ?_
 unfold bload
 rw [Try.underlying51]
 simp only [show tsz Try.prog 51 = some 17 by kernel_rfl, Option.bind_some]
 rw [if_pos (by rw [evsL_length]; omega), ev_msg hi]
theorem pevsame_eq (v v' : Value) (ws ws' : List EW) (M : Mem) (hv : Sl M v 18 (evsL ws)) (hv' : Sl M v' 18 (evsL ws')) (hg : ∀ w ∈ ws, w.good M) (hg' : ∀ w ∈ ws', w.good M) (he : ws.map EW.e = ws'.map EW.e) (hz : ∀ w ∈ ws, sizeM w.e.msg) (hl : ws.length ≤ 1000000) : CallA Try.prog 33 [v, v'] M fun r M' => Fr M M' [] ∧ r = .bool true := by
 have hs := hv.isSl
 have hn := hv.lnE
 have hs' := hv'.isSl
 have hn' := hv'.lnE
 have hlen : ws'.length = ws.length := by have := congrArg List.length he; rw [List.length_map, List.length_map] at this; exact this.symm
 rw [hlen] at hn'
 have d0 : decide ((ws.length : Int) = (ws.length : Int)) = true := decide_eq_true rfl
 (refine CallA.of_body Try.func33 rfl (by rfl) ?_; simp only [Try.ntmps33, List.length_cons, List.length_nil, List.replicate, List.cons_append, List.nil_append, Nat.reduceSub, Nat.reduceAdd])
 (repeat (first | refine st ?_ | refine σa ?_ | refine d33_Pec ?_ | ((first | refine σb ?_ | refine σc ?_); simp (disch := omega) only [push_cast, ↓reduceIte, reduceCtorEq, ν1, ν2, ν3, ν4, ν5, ζ1, ζ2, ζ3, ζ4, ζ5, hs, hn, hs', hn', d0, Bool.not_true, lsE])))
 refine AW.loopF [4, 5, 13, 14, 15, 16, 17, 18, 19, 20, 21, 22, 23, 24, 25, 26, 27, 28, 29, 30, 31, 32, 33, 34, 35, 36, 37, 38, 39, 40, 41] (fun n g M' => ∃ i : Nat, g 13 = .int .i64 (i : Int) ∧ n = ws.length - i ∧ i ≤ ws.length ∧ Fr M M' []) ws.length ?_ ?_
 ·exact ⟨0, rfl, by omega, by omega, Fr.refl _⟩
 rintro n g M1 ⟨i, h13, rfl, hi, F1⟩
 simp (disch := omega) only [push_cast, ↓reduceIte, reduceCtorEq, Nat.reduceAdd, Nat.reduceMul, Nat.reduceLeDiff, Nat.reduceLT, Nat.reduceSub, Int.reduceNe, Int.reduceEq, Int.reduceLE, Int.reduceLT, Int.reduceToNat, h13]
 by_cases ci : i < ws.length
 rotate_left
 ·have d : decide ((i : Int) < (ws.length : Int)) = false := decide_eq_false (by omega)
  (repeat (first | refine st ?_ | refine σa ?_ | refine d33_Pec ?_ | ((first | refine σb ?_ | refine σc ?_); simp (disch := omega) only [push_cast, ↓reduceIte, reduceCtorEq, ν1, ν2, ν3, ν4, ν5, ζ1, ζ2, ζ3, ζ4, ζ5, d, lsE])))
  ((first | refine retA.ret (by rfl) ?_ | refine retA.normal (by rfl) ?_); simp (disch := omega) only [push_cast, ↓reduceIte, reduceCtorEq, Nat.reduceAdd, Nat.reduceMul, Nat.reduceLeDiff, Nat.reduceLT, Nat.reduceSub, Int.reduceNe, Int.reduceEq, Int.reduceLE, Int.reduceLT, Int.reduceToNat])
  exact F1
 have d : decide ((i : Int) < (ws.length : Int)) = true := decide_eq_true (by omega)
 have wi : IntKind.i64.wrap ((i : Int) + 1) = i + 1 := w_i64 (by omega) (by omega)
 have eti : ((i : Nat) : Int).toNat = i := Int.toNat_natCast i
 have lti : (i : Int) < (ws.length : Int) := by omega
 have lei : (0 : Int) ≤ (i : Int) := by omega
 obtain ⟨w, hw⟩ : ∃ w, ws[i]? = some w := ⟨_, List.getElem?_eq_getElem ci⟩
 obtain ⟨w', hw'⟩ : ∃ w, ws'[i]? = some w := ⟨_, List.getElem?_eq_getElem (by omega)⟩
 have hwm : w ∈ ws := List.mem_of_getElem? hw
 have hwm' : w' ∈ ws' := List.mem_of_getElem? hw'
 have hee : w'.e = w.e := by
  have h1 : (ws.map EW.e)[i]? = some w.e := by rw [List.getElem?_map, hw]; rfl
  have h2 : (ws'.map EW.e)[i]? = some w'.e := by rw [List.getElem?_map, hw']; rfl
  rw [he, h2] at h1
  exact Option.some.inj h1
 have hv1 := hv.keep F1 (by simp)
 have hv1' := hv'.keep F1 (by simp)
 have k1 := ev_kload hv1 hw
 have k2 := ev_kload hv1' hw'
 have m1 := ev_mload hv1 hw
 have m2 := ev_mload hv1' hw'
 rw [hee] at k2 m2
 have dk : decide (w.e.kind = w.e.kind) = true := decide_eq_true rfl
 (repeat (first | refine st ?_ | refine σa ?_ | refine d33_Pec ?_ | ((first | refine σb ?_ | refine σc ?_); simp (disch := omega) only [push_cast, ↓reduceIte, reduceCtorEq, ν1, ν2, ν3, ν4, ν5, ζ1, ζ2, ζ3, ζ4, ζ5, hs, hn, hs', hn', d, eti, lti, lei, k1, k2, m1, m2, dk, Bool.not_true, Bool.not_false, lsE])))
 have hG : w.good M1 := (hg w hwm).keep F1 (by simp)
 have hG' : w'.good M1 := (hg' w' hwm').keep F1 (by simp)
 unfold EW.good at hG hG'
 rw [hee] at hG'
 have hzw := hz w hwm
 unfold sizeM at hzw
 refine (msame_eq w.e.msg _ _ _ _ _ _ _ _ _ _ M1 hG hG' (by omega) (by omega) (by omega) (by omega) (by omega)).mono ?_
 rintro r M2 ⟨f2, rfl⟩
 (repeat (first | refine st ?_ | refine σa ?_ | refine d33_Pec ?_ | ((first | refine σb ?_ | refine σc ?_); simp (disch := omega) only [push_cast, ↓reduceIte, reduceCtorEq, ν1, ν2, ν3, ν4, ν5, ζ1, ζ2, ζ3, ζ4, ζ5, wi, Bool.not_true, Bool.not_false, lsE])))
 refine ⟨rfl, ws.length - (i + 1), by omega, i + 1, by push_cast; rfl, rfl, by omega, F1.tr f2⟩
theorem d27_Ped {g n : Prop} (k : n) (h : n → g := by first | exact AW.dr (id := 7) (by rfl) [0, 1, 7, 2, 3, 4, 5, 6, 8, 9, 10] (by kernel_rfl) (by kernel_rfl)) : g := h k
theorem a27_Ped {g n : Prop} (k : n) (h : n → g := by first | exact AL.mk rfl | exact AL.cp rfl rfl | exact AH.caN (dst := some 55) rfl (by kernel_rfl) | exact AH.mk rfl | exact AH.cpN rfl rfl (by kernel_rfl)) : g := h k
theorem a27s_Ped {g n : Prop} (k : n) (h : n → g := by first | exact AL.mk rfl | exact AL.cp rfl rfl) : g := h k
theorem pvL_ld (P : Program) (ty : TypeId) (p : PV) (vb : Value) (j : Nat) : bload P ty (pvL p vb) j = bload P ty [.int .u32 p.conf.asn, .int .u32 p.conf.id, .int .i64 p.conf.hold, .int .u32 p.conf.peer, .int .i64 p.state, vb, .int .i64 p.hold, .int .i64 p.heard, .int .i64 p.said, .int .u32 p.id] j := rfl
theorem pvL_len (p : PV) (vb : Value) : (pvL p vb).length = 10 := rfl
theorem pvL_one {p : PV} {vb : Value} (h : isSl vb = true) : (pvL p vb).all Value.oneCell' = true := by
 have h1 := isSl_one h
 simp only [Value.oneCell'] at h1
 simp [pvL, Value.oneCell', h1]
structure OutA (M : Mem) (s : ST) (vb vo ve : Value) (ws : List EW) : Prop where
 buf : Sl M vb 1 (ints .u8 s.p.buf)
 out : Sl M vo 1 (ints .u8 s.out)
 evs : Sl M ve 18 (evsL ws)
 ews : ws.map EW.e = s.evs
 good : ∀ w ∈ ws, w.good M
theorem OutA.keep {M M' : Mem} {s : ST} {vb vo ve : Value} {ws : List EW} (h : OutA M s vb vo ve ws) (f : Fr M M' []) : OutA M' s vb vo ve ws :=
 ⟨h.buf.keep f (by simp), h.out.keep f (by simp), h.evs.keep f (by simp), h.ews, fun w hw => (h.good w hw).keep f (by simp)⟩
def outB (w vo ve : Value) (ws : List EW) (b : Nat) : Prop := b ∈ blkOf w ∨ b ∈ blkOf vo ∨ b ∈ blkOf ve ∨ ∃ x ∈ ws, b ∈ x.blk
theorem OutA.keepX {M M' : Mem} {X : List Nat} {s : ST} {vb vo ve : Value} {ws : List EW} (h : OutA M s vb vo ve ws) (f : Fr M M' X) (hx : ∀ b, outB vb vo ve ws b → b ∉ X) : OutA M' s vb vo ve ws :=
 ⟨h.buf.keep f fun b hb => hx b (.inl hb), h.out.keep f fun b hb => hx b (.inr (.inl hb)), h.evs.keep f fun b hb => hx b (.inr (.inr (.inl hb))), h.ews, fun w hw => (h.good w hw).keep f fun b hb => hx b (.inr (.inr (.inr ⟨w, hw, hb⟩)))⟩
theorem OutA.len {M : Mem} {s : ST} {vb vo ve : Value} {ws : List EW} (h : OutA M s vb vo ve ws) : ws.length = s.evs.length := by
 have := congrArg List.length h.ews; rw [List.length_map] at this; exact this
theorem pfeedK {q : PV} {vb vx : Value} {bs : List Int} {M : Mem} {s : ST} {K : Value → Mem → Prop} (hv : Sl M vb 1 (ints .u8 q.buf)) (hx : Sl M vx 1 (ints .u8 bs)) (hb1 : bytesL q.buf) (hb2 : bytesL bs) (hl : q.buf.length + bs.length ≤ 90000) (hs : feedP q bs = s)
  (k : ∀ M' w vo ve ws, Fr M M' [] → OutA M' s w vo ve ws → (∀ b, outB w vo ve ws b → M.length ≤ b) → K (.tuple ⟨[.agg ⟨pvL s.p w⟩, vo, ve]⟩) M') : CallA Try.prog 29 [.agg ⟨pvL q vb⟩, vx] M K :=
 (pfeed_spec q vb vx bs M hv hx hb1 hb2 hl).mono fun r M' ⟨f, w, vo, ve, ws, e, h1, _, h2, h3, h4, h5, l1, l2, l3, l4⟩ => by
  subst hs; rw [e]; exact k M' w vo ve ws f ⟨h1, h2, h3, h4, h5⟩ fun b hb => hb.elim (l1 b) fun hb => hb.elim (l2 b) fun hb => hb.elim (l3 b) fun ⟨x, hx, hb⟩ => l4 x hx b hb
theorem pstartK {q : PV} {vb : Value} {M : Mem} {s : ST} {K : Value → Mem → Prop} (hv : Sl M vb 1 (ints .u8 q.buf)) (hl : q.buf.length ≤ 1000000) (u1 : u32 q.conf.asn) (u2 : u32 q.conf.id) (hs : startP q = s)
  (k : ∀ M' w vo, Fr M M' [] → Sl M' w 1 (ints .u8 s.p.buf) → Sl M' vo 1 (ints .u8 s.out) → (∀ b ∈ blkOf w, M.length ≤ b) → (∀ b ∈ blkOf vo, M.length ≤ b) → K (.tuple ⟨[.agg ⟨pvL s.p w⟩, vo]⟩) M') : CallA Try.prog 36 [.agg ⟨pvL q vb⟩] M K :=
 (pstart_spec q vb M hv hl u1 u2).mono fun r M' ⟨f, w, vo, e, h1, h2, l1, l2⟩ => by
  subst hs; rw [e]; exact k M' w vo f h1 h2 l1 l2
theorem evs1 {ws : List EW} {k : Int} (h : ws.map EW.e = [⟨k, MV.zero⟩]) : ws.length = 1 ∧ ∃ w, ws[0]? = some w ∧ w.e.kind = k := by
 cases ws with
 | nil => cases h
 | cons w ws =>
  cases ws with
  | nil => rw [List.map_cons, List.map_nil] at h; obtain ⟨h, _⟩ := List.cons.inj h; exact ⟨rfl, w, rfl, by rw [h]⟩
  | cons x xs => simp at h
def cA : CF := ⟨1, 1, 90, 2⟩
def qA0 : PV := freshP cA 2
def openA : List Int := [255, 255, 255, 255, 255, 255, 255, 255, 255, 255, 255, 255, 255, 255, 255, 255, 0, 37, 1, 4, 0, 2, 0, 90, 0, 0, 0, 2, 8, 2, 6, 65, 4, 0, 0, 0, 2]
def saidA : List Int := [255, 255, 255, 255, 255, 255, 255, 255, 255, 255, 255, 255, 255, 255, 255, 255, 0, 37, 1, 4, 0, 1, 0, 90, 0, 0, 0, 1, 8, 2, 6, 65, 4, 0, 0, 0, 1]
def aliveA : List Int := [255, 255, 255, 255, 255, 255, 255, 255, 255, 255, 255, 255, 255, 255, 255, 255, 0, 19, 4]
def badA : List Int := [255, 255, 255, 255, 255, 255, 255, 255, 255, 255, 255, 255, 255, 255, 255, 255, 0, 21, 3, 1, 1]
def mA : MV := openM ⟨2, 2, 90, 2⟩
theorem putA1 : putM mA = (openA, 0) := by kernel_rfl
theorem putA2 : putM aliveM = (aliveA, 0) := by kernel_rfl
theorem newA : newP cA = (freshP cA 1, 0) := by kernel_rfl
theorem startA : startP (freshP cA 1) = ⟨qA0, saidA, []⟩ := by kernel_rfl
def qA1 : PV := { freshP cA 3 with hold := 90, id := 2 }
def qA2 : PV := { freshP cA 4 with hold := 90, id := 2 }
theorem feedA1 : feedP qA0 openA = ⟨qA1, aliveA, []⟩ := by kernel_rfl
theorem feedA2 : feedP qA1 aliveA = ⟨qA2, [], [⟨1, MV.zero⟩]⟩ := by kernel_rfl
theorem feedA3 : feedP qA2 (List.replicate 19 0) = ⟨freshP cA 1, badA, [⟨3, MV.zero⟩]⟩ := by kernel_rfl
theorem openA_b : bytesL openA := by unfold bytesL openA; simp
theorem aliveA_b : bytesL aliveA := by unfold bytesL aliveA; simp
theorem alive27_spec (M : Mem) : CallA Try.prog 27 [] M fun r M' => Fr M M' [] ∧ r = .bool true := by
 (refine CallA.of_body Try.func27 rfl (by rfl) ?_; simp only [Try.ntmps27, List.length_cons, List.length_nil, List.replicate, List.cons_append, List.nil_append, Nat.reduceSub, Nat.reduceAdd])
 (repeat (first | refine st ?_ | refine σa ?_ | refine d27_Ped ?_ | ((first | refine a27_Ped ?_ | refine σb ?_ | refine σc ?_); simp (disch := omega) only [push_cast, ↓reduceIte, reduceCtorEq, ν1, ν2, ν3, ν4, ν5, ζ1, ζ2, ζ3, ζ4, ζ5, buildE, lsE])))
 refine (pnew_spec cA M).mono ?_
 rintro r M1 ⟨f1, rfl⟩
 rw [newA]
 have n1 : (pvL (freshP cA 1) (.slice none 0 0)).all Value.oneCell' = true := pvL_one rfl
 (repeat (first | refine st ?_ | refine σa ?_ | refine d27_Ped ?_ | ((first | refine a27_Ped ?_ | refine σb ?_ | refine σc ?_); simp (disch := omega) only [push_cast, ↓reduceIte, reduceCtorEq, ν1, ν2, ν3, ν4, ν5, ζ1, ζ2, ζ3, ζ4, ζ5, pvL_len, pvL_ld, n1, mem2E, List.drop_nil, List.append_nil, memE, boxE, boxE, buildE, lsE])))
 have F1 := f1.tr (Fr.push M1 (.box (pvL (freshP cA 1) (.slice none 0 0))))
 generalize M1 ++ [Blk.box (pvL (freshP cA 1) (.slice none 0 0))] = N1 at *
 refine pstartK (q := freshP cA 1) (vb := .slice none 0 0) (Sl.nil _ (by omega)) (by show 0 ≤ 1000000; omega) ⟨by decide, by decide⟩ ⟨by decide, by decide⟩ startA fun M2 w2 vo2 f2 hw2 ho2 _ _ => ?_
 have n2 : (pvL qA0 w2).all Value.oneCell' = true := pvL_one hw2.isSl
 have s2 := ho2.isSl
 have l2 := ho2.lnI
 (repeat (first | refine st ?_ | refine σa ?_ | refine d27_Ped ?_ | ((first | refine a27_Ped ?_ | refine σb ?_ | refine σc ?_); simp (disch := omega) only [push_cast, ↓reduceIte, reduceCtorEq, ν1, ν2, ν3, ν4, ν5, ζ1, ζ2, ζ3, ζ4, ζ5, pvL_len, pvL_ld, n2, mem2E, List.drop_nil, List.append_nil, memE, boxE, boxE, buildE, lsE])))
 have P2 := Fr.push M2 (.box (pvL qA0 w2))
 have A2 := At.push M2 (.box (pvL qA0 w2))
 have F2 := (F1.tr f2).tr P2
 have hw2' := hw2.keep P2 (by simp)
 have ho2' := ho2.keep P2 (by simp)
 generalize M2 ++ [Blk.box (pvL qA0 w2)] = N2 at *
 refine mputK (m := mA) (g := .slice none 0 0) (a := .slice none 0 0) (c := .slice none 0 0) (nw := .slice none 0 0) (d := .slice none 0 0) (MVin.nils _ ⟨rfl, rfl, rfl, rfl, rfl⟩) (good_open ⟨by decide, by decide⟩ ⟨by decide, by decide⟩) (size_open _) putA1 fun M3 w3 f3 n3 => ?_
 (repeat (first | refine st ?_ | refine σa ?_ | refine d27_Ped ?_ | ((first | refine a27_Ped ?_ | refine σb ?_ | refine σc ?_); simp (disch := omega) only [push_cast, ↓reduceIte, reduceCtorEq, ν1, ν2, ν3, ν4, ν5, ζ1, ζ2, ζ3, ζ4, ζ5, buildE, lsE])))
 refine mputK (m := aliveM) (g := .slice none 0 0) (a := .slice none 0 0) (c := .slice none 0 0) (nw := .slice none 0 0) (d := .slice none 0 0) (MVin.nils _ ⟨rfl, rfl, rfl, rfl, rfl⟩) good_alive size_alive putA2 fun M4 w4 f4 n4 => ?_
 have A4 := (A2.keep f3 (by simp)).keep f4 (by simp)
 have F4 := (F2.tr f3).tr f4
 (repeat (first | refine st ?_ | refine σa ?_ | refine d27_Ped ?_ | ((first | refine a27_Ped ?_ | refine σb ?_ | refine σc ?_); simp (disch := omega) only [push_cast, ↓reduceIte, reduceCtorEq, ν1, ν2, ν3, ν4, ν5, ζ1, ζ2, ζ3, ζ4, ζ5, A4.ld, pvL_ld, buildE, lsE])))
 refine pfeedK (q := qA0) (vb := w2) (bs := openA) ((hw2'.keep f3 (by simp)).keep f4 (by simp)) (n3.1.sl.keep f4 (by simp)) (fun x hx => by cases hx) openA_b (by show 0 + 37 ≤ 90000; omega) feedA1 fun M5 w5 vo5 ve5 ws5 f5 h5 _ => ?_
 have n5 : (pvL qA1 w5).all Value.oneCell' = true := pvL_one h5.buf.isSl
 have s5 := h5.out.isSl
 have t5 := h5.evs.isSl
 (repeat (first | refine st ?_ | refine σa ?_ | refine d27_Ped ?_ | ((first | refine a27_Ped ?_ | refine σb ?_ | refine σc ?_); simp (disch := omega) only [push_cast, ↓reduceIte, reduceCtorEq, ν1, ν2, ν3, ν4, ν5, ζ1, ζ2, ζ3, ζ4, ζ5, pvL_len, pvL_ld, n5, mem2E, List.drop_nil, List.append_nil, memE, boxE, boxE, buildE, lsE])))
 have P5 := Fr.push M5 (.box (pvL qA1 w5))
 have A5 := At.push M5 (.box (pvL qA1 w5))
 have F5 := (F4.tr f5).tr P5
 have h5' := h5.keep P5
 generalize M5 ++ [Blk.box (pvL qA1 w5)] = N5 at *
 refine pfeedK (q := qA1) (vb := w5) (bs := aliveA) h5'.buf ((n4.1.sl.keep f5 (by simp)).keep P5 (by simp)) (fun x hx => by cases hx) aliveA_b (by show 0 + 19 ≤ 90000; omega) feedA2 fun M6 w6 vo6 ve6 ws6 f6 h6 _ => ?_
 have n6 : (pvL qA2 w6).all Value.oneCell' = true := pvL_one h6.buf.isSl
 have s6 := h6.out.isSl
 have t6 := h6.evs.isSl
 (repeat (first | refine st ?_ | refine σa ?_ | ((first | refine a27s_Ped ?_ | refine σb ?_); simp (disch := omega) only [push_cast, ↓reduceIte, reduceCtorEq, ν1, ν2, ν3, ν4, ν5, ζ1, ζ2, ζ3, ζ4, ζ5, pvL_len, pvL_ld, n6, mem2E, List.drop_nil, List.append_nil, memE, boxE, boxE, buildE, lsE])))
 have P6 := Fr.push M6 (.box (pvL qA2 w6))
 have A6 := At.push M6 (.box (pvL qA2 w6))
 have F6 := (F5.tr f6).tr P6
 have h6' := h6.keep P6
 generalize M6 ++ [Blk.box (pvL qA2 w6)] = N6 at *
 (repeat (first | refine st ?_ | refine σa ?_ | refine d27_Ped ?_ | ((first | refine a27_Ped ?_ | refine σb ?_ | refine σc ?_); simp (disch := omega) only [push_cast, ↓reduceIte, reduceCtorEq, ν1, ν2, ν3, ν4, ν5, ζ1, ζ2, ζ3, ζ4, ζ5, A6.ld, pvL_ld, buildE, lsE])))
 refine mkK.ints (P := Try.prog) (e := 5) (bt := 1) (k := .u8) (by kernel_rfl) (by kernel_rfl) (by kernel_rfl) (by kernel_rfl) (l := 19) (n := 19) (by omega) (by omega) (by omega) ?_
 have R7 := Fr.push N6 (.row true 1 (ints .u8 (List.replicate 19 0)))
 have r7 := New.row N6 (s := 1) (n := 19) (cs := ints .u8 (List.replicate 19 0)) (by omega) rfl rfl (by decide)
 (repeat (first | refine st ?_ | refine σa ?_ | refine d27_Ped ?_ | ((first | refine a27_Ped ?_ | refine σb ?_ | refine σc ?_); simp (disch := omega) only [push_cast, ↓reduceIte, reduceCtorEq, ν1, ν2, ν3, ν4, ν5, ζ1, ζ2, ζ3, ζ4, ζ5, lsE])))
 generalize N6 ++ [Blk.row true 1 (ints .u8 (List.replicate 19 0))] = N7 at *
 have Z7 := Fr.push N7 (.box zeroL)
 have B7 := At.push N7 (.box zeroL)
 unfold zeroL at Z7 B7
 generalize N7 ++ [Blk.box [.int .u32 0, .int .u32 0, .int .i64 0, .int .u32 0, .int .i64 0, .slice none 0 0, .int .i64 0, .int .i64 0, .int .i64 0, .int .u32 0]] = N8 at *
 have f68 := R7.tr Z7
 refine pfeedK (q := qA2) (vb := w6) (bs := List.replicate 19 0) (h6'.keep f68).buf (r7.1.sl.keep Z7 (by simp)) (fun x hx => by cases hx) (fun x hx => by rw [List.eq_of_mem_replicate hx]; omega) (by show 0 + 19 ≤ 90000; omega) feedA3 fun M8 w8 vo8 ve8 ws8 f8 h8 k8 => ?_
 have n8 : (pvL (freshP cA 1) w8).all Value.oneCell' = true := pvL_one h8.buf.isSl
 have B8 := B7.keep f8 (by simp)
 have P9 := Fr.set M8 N7.length (.box (pvL (freshP cA 1) w8))
 have B9 := B8.set (.box (pvL (freshP cA 1) w8))
 have hN7 : N6.length ≤ N7.length := R7.1
 have f69 : Fr N6 (M8.set N7.length (.box (pvL (freshP cA 1) w8))) [] := ((f68.tr f8).trans P9).cut (fun c hc hlt => by simp at hc; omega)
 have F9 := F6.tr f69
 have A9 := A6.keep f69 (by simp)
 have h59 := (h5'.keep f6).keep (P6.tr f69)
 have h69 := h6'.keep f69
 have w49 := (((n4.1.sl.keep f5 (by simp)).keep P5 (by simp)).keep f6 (by simp)).keep (P6.tr f69) (by simp)
 have l9 : ((sln vo2 : Nat) : Int) = 37 := by have := ho2.lnI; have e : saidA.length = 37 := rfl; simp only at this; omega
 have hw5 : ws5.length = 0 := h59.len
 have e5 : ((sln ve5 : Nat) : Int) = 0 := by have := h59.evs.lnE; omega
 obtain ⟨y6, w60, hw60, hk60⟩ := evs1 h69.ews
 have e6 : ((sln ve6 : Nat) : Int) = 1 := by have := h69.evs.lnE; omega
 have ld6 := ev_kload h69.evs hw60
 rw [hk60] at ld6
 have s8 := h8.out.isSl
 have l8 : ((sln vo8 : Nat) : Int) = 21 := by have := h8.out.lnI; have e : badA.length = 21 := rfl; simp only at this; omega
 have t8 := h8.evs.isSl
 (repeat (first | refine st ?_ | refine σa ?_ | refine d27_Ped ?_ | ((first | refine a27_Ped ?_ | refine σb ?_ | refine σc ?_); simp (disch := omega) only [push_cast, ↓reduceIte, reduceCtorEq, ν1, ν2, ν3, ν4, ν5, ζ1, ζ2, ζ3, ζ4, ζ5, pvL_len, pvL_ld, n8, B8.get, B8.same, List.drop_nil, List.append_nil, s2, l9, s5, boxE, buildE, lsE])))
 refine (bytes_spec vo5 w4 aliveA aliveA _ h59.out w49 (by show 19 ≤ 1000000000; omega)).mono ?_
 rintro r MB ⟨rfl, rfl⟩
 have dA : decide (aliveA = aliveA) = true := decide_eq_true rfl
 have h89 : OutA (M8.set N7.length (.box (pvL (freshP cA 1) w8))) ⟨freshP cA 1, badA, [⟨3, MV.zero⟩]⟩ w8 vo8 ve8 ws8 := h8.keepX P9 (fun b hb hx => by have := k8 b hb; have := B7.lt; simp at hx; omega)
 have d4 : decide (qA2.state = 4) = true := by kernel_rfl
 have d1 : decide ((freshP cA 1).state = 1) = true := by kernel_rfl
 obtain ⟨y8, w80, hw80, hk80⟩ := evs1 h89.ews
 have e8 : ((sln ve8 : Nat) : Int) = 1 := by have := h89.evs.lnE; omega
 have ld8 := ev_kload h89.evs hw80
 rw [hk80] at ld8
 simp only [Nat.zero_mul, Nat.add_zero] at ld6 ld8
 (repeat (first | refine st ?_ | refine σa ?_ | refine d27_Ped ?_ | ((first | refine a27_Ped ?_ | refine σb ?_ | refine σc ?_); simp (disch := omega) only [push_cast, ↓reduceIte, reduceCtorEq, ν1, ν2, ν3, ν4, ν5, ζ1, ζ2, ζ3, ζ4, ζ5, dA, t5, e5, t6, e6, ld6, s8, l8, t8, e8, ld8, A9.ld, B9.ld, pvL_ld, d4, d1, lsE])))
 ((first | refine retA.ret (by rfl) ?_ | refine retA.normal (by rfl) ?_); simp (disch := omega) only [push_cast, ↓reduceIte, reduceCtorEq, Nat.reduceAdd, Nat.reduceMul, Nat.reduceLeDiff, Nat.reduceLT, Nat.reduceSub, Int.reduceNe, Int.reduceEq, Int.reduceLE, Int.reduceLT, Int.reduceToNat])
 exact F9
end Go.Proofs.Ytbdejnnbpdgjlaa.Ax
