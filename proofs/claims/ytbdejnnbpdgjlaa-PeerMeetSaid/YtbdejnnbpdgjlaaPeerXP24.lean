/- Contracts of functions over the abstract machine. No conditions: lemmas alone. -/
import Derived.Test.YtbdejnnbpdgjlaaPeerXLibD
import Derived.Test.YtbdejnnbpdgjlaaPeerXP0
import Derived.Test.YtbdejnnbpdgjlaaPeerXP23
namespace Go.Proofs.Ytbdejnnbpdgjlaa.Ax
open Go Go.RowKit
open Nat renaming reduceAdd → ν1, reduceMul → ν2, reduceLeDiff → ν3, reduceLT → ν4, reduceSub → ν5
open Int renaming reduceNe → ζ1, reduceEq → ζ2, reduceLE → ζ3, reduceLT → ζ4, reduceToNat → ζ5
set_option linter.unusedVariables false
set_option linter.unusedSimpArgs false
set_option maxRecDepth 100000
set_option maxHeartbeats 20000000
attribute [local irreducible] thenA blockA scopeA retA AL AW AD ADL AH clrK CallA apure aload bload appK ptrK fnK ares szOk planOk okOps
structure EW where
 e : EV
 g : Value
 a : Value
 c : Value
 n : Value
 d : Value
def EW.blk (w : EW) : List Nat := blkOf w.g ++ (blkOf w.a ++ (blkOf w.c ++ (blkOf w.n ++ blkOf w.d)))
def EW.cells (w : EW) : List Value := .int .i64 w.e.kind :: mvL w.e.msg w.g w.a w.c w.n w.d
def EW.good (M : Mem) (w : EW) : Prop := MVin M w.e.msg w.g w.a w.c w.n w.d
def evsL (ws : List EW) : List Value := ws.flatMap EW.cells
theorem evsL_length (ws : List EW) : (evsL ws).length = ws.length * 18 := by
 induction ws with
 | nil => rfl
 | cons w ws ih =>
  show (w.cells ++ evsL ws).length = _
  rw [List.length_append, ih, List.length_cons]
  show 18 + _ = _
  omega
theorem evsL_snoc (ws : List EW) (w : EW) : evsL (ws ++ [w]) = evsL ws ++ w.cells := by simp [evsL]
def FrL (lo : Nat) (M M' : Mem) : Prop := M.length ≤ M'.length ∧ ∀ b, b < lo → b < M.length → M'[b]? = M[b]?
theorem FrL.of {lo : Nat} {M M' : Mem} {X : List Nat} (f : Fr M M' X) (h : ∀ b ∈ X, lo ≤ b) : FrL lo M M' := ⟨f.1, fun b hb hl => f.2 b hl (fun hx => by have := h b hx; omega)⟩
theorem FrL.trans {lo : Nat} {M M' M'' : Mem} (f : FrL lo M M') (g : FrL lo M' M'') : FrL lo M M'' := ⟨Nat.le_trans f.1 g.1, fun b hb hl => (g.2 b hb (Nat.lt_of_lt_of_le hl f.1)).trans (f.2 b hb hl)⟩
theorem FrL.fr {lo : Nat} {M M' : Mem} (f : FrL lo M M') (h : M.length ≤ lo) : Fr M M' [] := ⟨f.1, fun b hb _ => f.2 b (by omega) hb⟩
structure ActW (lo : Nat) (M : Mem) (p : Nat) (s : ST) (vb vo ve : Value) (ws : List EW) : Prop where
 box : At M p (.box (acL s.p vb vo ve))
 buf : Sl M vb 1 (ints .u8 s.p.buf)
 out : Own M vo 1 (ints .u8 s.out)
 evs : Own M ve 18 (evsL ws)
 ews : ws.map EW.e = s.evs
 good : ∀ w ∈ ws, w.good M
 lop : lo ≤ p
 lob : ∀ b ∈ blkOf vb, lo ≤ b ∧ b ≠ p ∧ b ∉ blkOf vo ∧ b ∉ blkOf ve
 loo : ∀ b ∈ blkOf vo, lo ≤ b ∧ b ≠ p ∧ b ∉ blkOf ve
 loe : ∀ b ∈ blkOf ve, lo ≤ b ∧ b ≠ p
 low : ∀ w ∈ ws, ∀ b ∈ w.blk, b ≠ p ∧ b ∉ blkOf vo ∧ b ∉ blkOf ve
 lom : ∀ w ∈ ws, ∀ b ∈ w.blk, lo ≤ b
def ActA (lo : Nat) (M : Mem) (p : Nat) (s : ST) : Prop := ∃ vb vo ve ws, ActW lo M p s vb vo ve ws
theorem EW.good.keep {M M' : Mem} {w : EW} {X : List Nat} (h : w.good M) (f : Fr M M' X) (hx : ∀ b ∈ w.blk, b ∉ X) : w.good M' := MVin.keepX h f hx
theorem ActW.keep {lo : Nat} {M M' : Mem} {p : Nat} {s : ST} {vb vo ve : Value} {ws : List EW} (h : ActW lo M p s vb vo ve ws) (f : Fr M M' []) : ActW lo M' p s vb vo ve ws :=
 ⟨h.box.keep f (by simp), h.buf.keep f (by simp), h.out.keep f (by simp), h.evs.keep f (by simp), h.ews, fun w hw => (h.good w hw).keep f (by simp), h.lop, h.lob, h.loo, h.loe, h.low, h.lom⟩
theorem good_noticeM (a b : Int) : goodM (noticeM a b) := by simp [goodM, noticeM, MV.zero, goodAV, AV.zero, u32]
theorem size_noticeM (a b : Int) : sizeM (noticeM a b) := by simp [sizeM, noticeM, MV.zero, AV.zero]
theorem put_err0 {m : MV} (h : (putM m).2 ≠ 0) : (putM m).1 = [] := by
 unfold putM at *
 split
 ·rfl
 split
 ·rfl
 split
 ·rfl
 ·rename_i h1 h2 h3
  rw [if_neg h1, if_neg h2, if_neg h3] at h
  exact absurd rfl h
theorem acL_ld (P : Program) (ty : TypeId) (p : PV) (vb vo ve : Value) (j : Nat) : bload P ty (acL p vb vo ve) j = bload P ty [.int .u32 p.conf.asn, .int .u32 p.conf.id, .int .i64 p.conf.hold, .int .u32 p.conf.peer, .int .i64 p.state, vb, .int .i64 p.hold, .int .i64 p.heard, .int .i64 p.said, .int .u32 p.id, vo, ve] j := rfl
theorem ActW.lt {lo : Nat} {M : Mem} {p : Nat} {s : ST} {vb vo ve : Value} {ws : List EW} (h : ActW lo M p s vb vo ve ws) : p < M.length := h.box.lt
theorem ActW.said {lo : Nat} {M M' : Mem} {p : Nat} {s : ST} {vb vo ve v' : Value} {ws : List EW} {bs : List Int} (h : ActW lo M p s vb vo ve ws) (hN : New M M' v' 1 (ints .u8 (s.out ++ bs))) (hF : Fr M M' (blkOf vo)) :
  ActW lo (M'.set p (.box (acL s.p vb v' ve))) p { s with out := s.out ++ bs } vb v' ve ws ∧ FrL lo M (M'.set p (.box (acL s.p vb v' ve))) := by
 have hp := h.lt
 have nb := hN.blk
 have fs := Fr.set M' p (.box (acL s.p vb v' ve))
 have bx' := h.box.keep hF (fun hx => (h.loo p hx).2.1 rfl)
 have hlb := h.buf.blks
 have hle := h.evs.sl.blks
 have hlo2 := h.lop
 refine ⟨⟨bx'.set _, (h.buf.keep hF (fun b hb => (h.lob b hb).2.2.1)).keep fs (fun b hb hx => (h.lob b hb).2.1 (by simpa using hx)), hN.1.keep fs (fun b hb hx => by have := nb b hb; simp at hx; omega),
  (h.evs.keep hF (fun b hb hx => (h.loo b hx).2.2 hb)).keep fs (fun b hb hx => (h.loe b hb).2 (by simpa using hx)), h.ews, fun w hw => ((h.good w hw).keep hF (fun b hb => (h.low w hw b hb).2.1)).keep fs (fun b hb hx => (h.low w hw b hb).1 (by simpa using hx)), h.lop, ?_, ?_, h.loe, ?_, h.lom⟩, ?_⟩
 ·intro b hb
  have := hlb b hb
  exact ⟨(h.lob b hb).1, (h.lob b hb).2.1, fun hx => by have := nb b hx; omega, (h.lob b hb).2.2.2⟩
 ·intro b hb
  have := nb b hb
  exact ⟨by omega, by omega, fun hx => by have := hle b hx; omega⟩
 ·intro w hw b hb
  refine ⟨(h.low w hw b hb).1, fun hx => ?_, (h.low w hw b hb).2.2⟩
  have h1 := nb b hx
  have hg := h.good w hw
  have : b < M.length := by
   unfold EW.blk at hb
   simp only [List.mem_append] at hb
   rcases hb with hb | hb | hb | hb | hb
   ·exact hg.gone.blks b hb
   ·exact hg.path.blks b hb
   ·exact hg.comms.blks b hb
   ·exact hg.new.blks b hb
   ·exact hg.data.blks b hb
  omega
 ·refine FrL.of (hF.trans fs) ?_
  intro b hb
  rcases List.mem_append.1 hb with hb | hb
  ·exact (h.loo b hb).1
  ·rw [List.mem_singleton] at hb; rw [hb]; exact h.lop
theorem psay_spec (lo p : Nat) (s : ST) (vb vo ve : Value) (ws : List EW) (m : MV) (g a c nw d : Value) (M : Mem) (h : ActW lo M p s vb vo ve ws) (hin : MVin M m g a c nw d) (hg : goodM m) (hz : sizeM m) (hl : s.out.length ≤ 10000000) (hlo : lo ≤ M.length) :
  CallA Try.prog 73 [.pointer (some ⟨p, 0, none⟩), .agg ⟨mvL m g a c nw d⟩] M fun r M' => r = .tuple ⟨[]⟩ ∧ FrL lo M M' ∧ ActA lo M' p (sayP s m) := by
 obtain ⟨bs, e, hP⟩ : ∃ bs e, putM m = (bs, e) := ⟨_, _, rfl⟩
 have o1 := mvL_one (m := m) ⟨hin.gone.isSl, hin.path.isSl, hin.comms.isSl, hin.new.isSl, hin.data.isSl⟩
 have P1 := Fr.push M (.box (mvL m g a c nw d))
 have hbl := putM_bytes hg
 rw [hP] at hbl
 simp only at hbl
 (refine CallA.of_body Try.func73 rfl (by rfl) ?_; simp only [Try.ntmps73, List.length_cons, List.length_nil, List.replicate, List.cons_append, List.nil_append, Nat.reduceSub, Nat.reduceAdd])
 (repeat (first | refine st ?_ | refine σa ?_ | (refine σb ?_; simp (disch := omega) only [push_cast, ↓reduceIte, reduceCtorEq, ν1, ν2, ν3, ν4, ν5, ζ1, ζ2, ζ3, ζ4, ζ5, mvL_ld, o1, memE, boxE, buildE, lsE])))
 refine mputK (hin.keep P1 (by simp)) hg hz hP fun M1 w f1 n1 => ?_
 have h1 := (h.keep P1).keep f1
 have F1 := P1.tr f1
 by_cases ce : e = 0
 rotate_left
 ·have he := put_err0 (m := m) (by rw [hP]; exact ce)
  rw [hP] at he
  simp only at he
  have d0 : decide (e = 0) = false := decide_eq_false ce
  (repeat (first | refine st ?_ | refine σa ?_ | (refine σb ?_; simp (disch := omega) only [push_cast, ↓reduceIte, reduceCtorEq, ν1, ν2, ν3, ν4, ν5, ζ1, ζ2, ζ3, ζ4, ζ5, d0, lsE])))
  ((first | refine retA.ret (by rfl) ?_ | refine retA.normal (by rfl) ?_); simp (disch := omega) only [push_cast, ↓reduceIte, reduceCtorEq, Nat.reduceAdd, Nat.reduceMul, Nat.reduceLeDiff, Nat.reduceLT, Nat.reduceSub, Int.reduceNe, Int.reduceEq, Int.reduceLE, Int.reduceLT, Int.reduceToNat])
  refine ⟨FrL.of F1 (by simp), vb, vo, ve, ws, ?_⟩
  have : sayP s m = s := by unfold sayP; rw [hP, he, List.append_nil]
  rw [this]; exact h1
 subst ce
 have d0 : decide ((0 : Int) = 0) = true := rfl
 have so := h1.out.sl.isSl
 have co := isSl_cl so
 (repeat (first | refine st ?_ | refine σa ?_ | (refine σb ?_; simp (disch := omega) only [push_cast, ↓reduceIte, reduceCtorEq, ν1, ν2, ν3, ν4, ν5, ζ1, ζ2, ζ3, ζ4, ζ5, d0, h1.box.ld, acL_ld, so, co, buildE, lsE])))
 refine appK.ints (P := Try.prog) (e := 5) (bt := 1) (z := .int .u8 0) (by kernel_rfl) (by kernel_rfl) (by kernel_rfl) (by kernel_rfl) (by decide) h1.out n1.sl (by omega) ?_
 intro v' M2 hN hF
 have c2 := isSl_cl hN.1.sl.isSl
 have o2 := isSl_one hN.1.sl.isSl
 simp only [Value.oneCell'] at o2
 have bx2 := h1.box.keep hF (fun hx => (h1.loo p hx).2.1 rfl)
 have hsd := h1.said (bs := bs) hN hF
 unfold acL at bx2
 (repeat (first | refine st ?_ | refine σa ?_ | (refine σb ?_; simp (disch := omega) only [push_cast, ↓reduceIte, reduceCtorEq, ν1, ν2, ν3, ν4, ν5, ζ1, ζ2, ζ3, ζ4, ζ5, bx2.get, bx2.same, c2, o2, List.drop_nil, List.append_nil, boxE, buildE, lsE])))
 ((first | refine retA.ret (by rfl) ?_ | refine retA.normal (by rfl) ?_); simp (disch := omega) only [push_cast, ↓reduceIte, reduceCtorEq, Nat.reduceAdd, Nat.reduceMul, Nat.reduceLeDiff, Nat.reduceLT, Nat.reduceSub, Int.reduceNe, Int.reduceEq, Int.reduceLE, Int.reduceLT, Int.reduceToNat])
 refine ⟨(FrL.of F1 (by simp)).trans hsd.2, vb, v', ve, ws, ?_⟩
 have e : sayP s m = { s with out := s.out ++ bs } := by unfold sayP; rw [hP]
 rw [e]
 exact hsd.1
theorem ActW.setP {lo : Nat} {M : Mem} {p : Nat} {s : ST} {vb vo ve vb' : Value} {ws : List EW} (h : ActW lo M p s vb vo ve ws) (q : PV) (hb : Sl M vb' 1 (ints .u8 q.buf)) (hlb : ∀ b ∈ blkOf vb', lo ≤ b ∧ b ≠ p ∧ b ∉ blkOf vo ∧ b ∉ blkOf ve) :
  ActW lo (M.set p (.box (acL q vb' vo ve))) p { s with p := q } vb' vo ve ws ∧ FrL lo M (M.set p (.box (acL q vb' vo ve))) := by
 have fs := Fr.set M p (.box (acL q vb' vo ve))
 refine ⟨⟨h.box.set _, hb.keep fs (fun b hb hx => (hlb b hb).2.1 (by simpa using hx)), h.out.keep fs (fun b hb hx => (h.loo b hb).2.1 (by simpa using hx)), h.evs.keep fs (fun b hb hx => (h.loe b hb).2 (by simpa using hx)), h.ews, fun w hw => (h.good w hw).keep fs (fun b hb hx => (h.low w hw b hb).1 (by simpa using hx)), h.lop, hlb, h.loo, h.loe, h.low, h.lom⟩, ?_⟩
 exact FrL.of fs (fun b hb => by rw [List.mem_singleton] at hb; rw [hb]; exact h.lop)
theorem ActW.told {lo : Nat} {M M' : Mem} {p : Nat} {s : ST} {vb vo ve v' : Value} {ws : List EW} {w : EW} (h : ActW lo M p s vb vo ve ws) (hN : New M M' v' 18 (evsL ws ++ w.cells)) (hF : Fr M M' (blkOf ve)) (hw : w.good M) (hwb : ∀ b ∈ w.blk, b < M.length ∧ b ≠ p ∧ b ∉ blkOf vo ∧ b ∉ blkOf ve) (hwl : ∀ b ∈ w.blk, lo ≤ b) :
  ActW lo (M'.set p (.box (acL s.p vb vo v'))) p { s with evs := s.evs ++ [w.e] } vb vo v' (ws ++ [w]) ∧ FrL lo M (M'.set p (.box (acL s.p vb vo v'))) := by
 have hp := h.lt
 have nb := hN.blk
 have fs := Fr.set M' p (.box (acL s.p vb vo v'))
 have bx' := h.box.keep hF (fun hx => (h.loe p hx).2 rfl)
 have hlb := h.buf.blks
 have hlo := h.out.sl.blks
 have hlop := h.lop
 have low : ∀ x ∈ ws, ∀ b ∈ x.blk, b < M.length := by
  intro x hx b hb
  have hg := h.good x hx
  unfold EW.blk at hb
  simp only [List.mem_append] at hb
  rcases hb with hb | hb | hb | hb | hb
  ·exact hg.gone.blks b hb
  ·exact hg.path.blks b hb
  ·exact hg.comms.blks b hb
  ·exact hg.new.blks b hb
  ·exact hg.data.blks b hb
 have nb' : ∀ b, b < M.length → b ∉ blkOf v' := fun b hb hx => by have := nb b hx; omega
 refine ⟨⟨bx'.set _, (h.buf.keep hF (fun b hb => (h.lob b hb).2.2.2)).keep fs (fun b hb hx => (h.lob b hb).2.1 (by simpa using hx)), (h.out.keep hF (fun b hb => (h.loo b hb).2.2)).keep fs (fun b hb hx => (h.loo b hb).2.1 (by simpa using hx)),
  (by rw [evsL_snoc]; exact hN.1.keep fs (fun b hb hx => by have := nb b hb; simp at hx; omega)), by rw [List.map_append, h.ews]; rfl, ?_, h.lop, ?_, ?_, ?_, ?_, (fun x hx => (List.mem_append.1 hx).elim (h.lom x) (fun hx => by rw [List.mem_singleton] at hx; subst hx; exact hwl))⟩, ?_⟩
 ·intro x hx
  rcases List.mem_append.1 hx with hx | hx
  ·exact ((h.good x hx).keep hF (fun b hb => (h.low x hx b hb).2.2)).keep fs (fun b hb hx' => (h.low x hx b hb).1 (by simpa using hx'))
  ·rw [List.mem_singleton] at hx; subst hx
   exact (hw.keep hF (fun b hb => (hwb b hb).2.2.2)).keep fs (fun b hb hx' => (hwb b hb).2.1 (by simpa using hx'))
 ·intro b hb
  exact ⟨(h.lob b hb).1, (h.lob b hb).2.1, (h.lob b hb).2.2.1, nb' b (hlb b hb)⟩
 ·intro b hb
  exact ⟨(h.loo b hb).1, (h.loo b hb).2.1, nb' b (hlo b hb)⟩
 ·intro b hb
  have := nb b hb
  exact ⟨by omega, by omega⟩
 ·intro x hx b hb
  rcases List.mem_append.1 hx with hx | hx
  ·exact ⟨(h.low x hx b hb).1, (h.low x hx b hb).2.1, nb' b (low x hx b hb)⟩
  ·rw [List.mem_singleton] at hx; subst hx
   exact ⟨(hwb b hb).2.1, (hwb b hb).2.2.1, nb' b (hwb b hb).1⟩
 ·refine FrL.of (hF.trans fs) ?_
  intro b hb
  rcases List.mem_append.1 hb with hb | hb
  ·exact (h.loe b hb).1
  ·rw [List.mem_singleton] at hb; rw [hb]; exact h.lop
def EW.bare (k : Int) : EW := ⟨⟨k, MV.zero⟩, .slice none 0 0, .slice none 0 0, .slice none 0 0, .slice none 0 0, .slice none 0 0⟩
theorem EW.bare_good (M : Mem) (k : Int) : (EW.bare k).good M := MVin.nils _ ⟨rfl, rfl, rfl, rfl, rfl⟩
theorem pquiet_spec (lo p : Nat) (s : ST) (vb vo ve : Value) (ws : List EW) (M : Mem) (h : ActW lo M p s vb vo ve ws) (hl : ws.length ≤ 1000000) (hlo : lo ≤ M.length) :
  CallA Try.prog 105 [.pointer (some ⟨p, 0, none⟩)] M fun r M' => r = .tuple ⟨[]⟩ ∧ FrL lo M M' ∧ ActA lo M' p (quietP s) := by
 have so := h.out.sl.isSl
 have co := isSl_cl so
 have oo := isSl_one so
 have se := h.evs.sl.isSl
 have ce := isSl_cl se
 have oe := isSl_one se
 simp only [Value.oneCell'] at oo oe
 obtain ⟨h1, F1⟩ := h.setP (freshP s.p.conf 1) (vb' := .slice none 0 0) (Sl.nil _ (by omega)) (by simp [blkOf])
 have b0 := h.box
 have b1 := h1.box
 unfold acL freshP at b1 h1 F1
 unfold acL at b0
 (refine CallA.of_body Try.func105 rfl (by rfl) ?_; simp only [Try.ntmps105, List.length_cons, List.length_nil, List.replicate, List.cons_append, List.nil_append, Nat.reduceSub, Nat.reduceAdd])
 (repeat (first | refine st ?_ | refine σa ?_ | (refine σb ?_; simp (disch := omega) only [push_cast, ↓reduceIte, reduceCtorEq, ν1, ν2, ν3, ν4, ν5, ζ1, ζ2, ζ3, ζ4, ζ5, b0.get, b0.same, b0.ld, b1.ld, co, oo, ce, oe, List.drop_nil, List.append_nil, boxE, buildE, lsE])))
 have hM1 : (M.set p (Blk.box [.int .u32 s.p.conf.asn, .int .u32 s.p.conf.id, .int .i64 s.p.conf.hold, .int .u32 s.p.conf.peer, .int .i64 1, .slice none 0 0, .int .i64 0, .int .i64 0, .int .i64 0, .int .u32 0, vo, ve])).length = M.length := List.length_set
 generalize M.set p (Blk.box [.int .u32 s.p.conf.asn, .int .u32 s.p.conf.id, .int .i64 s.p.conf.hold, .int .u32 s.p.conf.peer, .int .i64 1, .slice none 0 0, .int .i64 0, .int .i64 0, .int .i64 0, .int .u32 0, vo, ve]) = M1 at *
 rw [← hM1]
 have Pr := Fr.push M1 (.row true 18 (EW.bare 3).cells)
 have hr := New.row M1 (s := 18) (n := 1) (cs := (EW.bare 3).cells) (by omega) rfl rfl (by decide)
 have h2 := h1.keep Pr
 refine appK.elems (P := Try.prog) (e := 101) (s := 18) (bt := 192) (z := [.int .i64 0, .int .i64 0, .int .u32 0, .int .u32 0, .int .i64 0, .slice none 0 0, .int .i64 0, .slice none 0 0, .int .u32 0, .int .u32 0, .int .u32 0, .bool false, .bool false, .slice none 0 0, .slice none 0 0, .int .i64 0, .int .i64 0, .slice none 0 0]) (by kernel_rfl) (by kernel_rfl) (by kernel_rfl) rfl (by kernel_rfl) (by decide) h2.evs hr.sl (by rw [evsL_length]; show (ws.length * 18 + 18) * _ ≤ _; omega) ?_
 intro v' M2 hN hF
 have c2 := isSl_cl hN.1.sl.isSl
 have o2 := isSl_one hN.1.sl.isSl
 simp only [Value.oneCell'] at o2
 have bx2 := h2.box.keep hF (fun hx => (h2.loe p hx).2 rfl)
 have ht := h2.told (w := EW.bare 3) hN hF (EW.bare_good _ _) (by simp [EW.bare, EW.blk, blkOf]) (by simp [EW.bare, EW.blk, blkOf])
 unfold acL at bx2
 (repeat (first | refine st ?_ | refine σa ?_ | (refine σb ?_; simp (disch := omega) only [push_cast, ↓reduceIte, reduceCtorEq, ν1, ν2, ν3, ν4, ν5, ζ1, ζ2, ζ3, ζ4, ζ5, bx2.get, bx2.same, c2, o2, List.drop_nil, List.append_nil, boxE, buildE, lsE])))
 ((first | refine retA.ret (by rfl) ?_ | refine retA.normal (by rfl) ?_); simp (disch := omega) only [push_cast, ↓reduceIte, reduceCtorEq, Nat.reduceAdd, Nat.reduceMul, Nat.reduceLeDiff, Nat.reduceLT, Nat.reduceSub, Int.reduceNe, Int.reduceEq, Int.reduceLE, Int.reduceLT, Int.reduceToNat])
 exact ⟨(F1.trans (FrL.of Pr (by simp))).trans ht.2, .slice none 0 0, vo, v', ws ++ [EW.bare 3], ht.1⟩
theorem pdown_spec (lo p : Nat) (s : ST) (vb vo ve : Value) (ws : List EW) (code sub : Int) (M : Mem) (h : ActW lo M p s vb vo ve ws) (hl : s.out.length ≤ 10000000) (hle : s.evs.length ≤ 1000000) (hlo : lo ≤ M.length) :
  CallA Try.prog 70 [.pointer (some ⟨p, 0, none⟩), .int .i64 code, .int .i64 sub] M fun r M' => r = .tuple ⟨[]⟩ ∧ FrL lo M M' ∧ ActA lo M' p (downP s code sub) := by
 (refine CallA.of_body Try.func70 rfl (by rfl) ?_; simp only [Try.ntmps70, List.length_cons, List.length_nil, List.replicate, List.cons_append, List.nil_append, Nat.reduceSub, Nat.reduceAdd])
 (repeat (first | refine st ?_ | refine σa ?_ | (refine σb ?_; simp (disch := omega) only [push_cast, ↓reduceIte, reduceCtorEq, ν1, ν2, ν3, ν4, ν5, ζ1, ζ2, ζ3, ζ4, ζ5, buildE, lsE])))
 refine (psay_spec lo p s vb vo ve ws (noticeM code sub) (.slice none 0 0) (.slice none 0 0) (.slice none 0 0) (.slice none 0 0) (.slice none 0 0) M h (MVin.nils _ ⟨rfl, rfl, rfl, rfl, rfl⟩) (good_noticeM code sub) (size_noticeM code sub) hl hlo).mono ?_
 rintro r M1 ⟨rfl, F1, vb1, vo1, ve1, ws1, h1⟩
 (repeat (first | refine st ?_ | refine σa ?_ | (refine σb ?_; simp (disch := omega) only [push_cast, ↓reduceIte, reduceCtorEq, ν1, ν2, ν3, ν4, ν5, ζ1, ζ2, ζ3, ζ4, ζ5, lsE])))
 have hw : ws1.length = s.evs.length := by have := congrArg List.length h1.ews; rw [List.length_map] at this; exact this
 refine (pquiet_spec lo p (sayP s (noticeM code sub)) vb1 vo1 ve1 ws1 M1 h1 (by omega) (Nat.le_trans hlo F1.1)).mono ?_
 rintro r M2 ⟨rfl, F2, h2⟩
 (repeat (first | refine st ?_ | refine σa ?_ | (refine σb ?_; simp (disch := omega) only [push_cast, ↓reduceIte, reduceCtorEq, ν1, ν2, ν3, ν4, ν5, ζ1, ζ2, ζ3, ζ4, ζ5, lsE])))
 ((first | refine retA.ret (by rfl) ?_ | refine retA.normal (by rfl) ?_); simp (disch := omega) only [push_cast, ↓reduceIte, reduceCtorEq, Nat.reduceAdd, Nat.reduceMul, Nat.reduceLeDiff, Nat.reduceLT, Nat.reduceSub, Int.reduceNe, Int.reduceEq, Int.reduceLE, Int.reduceLT, Int.reduceToNat])
 exact ⟨F1.trans F2, h2⟩
theorem d69_Pe4 {g n : Prop} (k : n) (h : n → g := by first | exact AW.dr (id := 1) (by rfl) [0, 1, 2, 3, 4, 5, 6, 7, 8, 9, 10, 11, 12, 13, 14] (by kernel_rfl) (by kernel_rfl)) : g := h k
theorem a69_Pe4 {g n : Prop} (k : n) (h : n → g := by first | exact AH.stF (i := 12) (ty := 76) (y := .tmp 8) rfl rfl) : g := h k
theorem pbegin_own (q : PV) (vb : Value) (M : Mem) (hv : Sl M vb 1 (ints .u8 q.buf)) (hl : q.buf.length ≤ 1000000) : CallA Try.prog 67 [.agg ⟨pvL q vb⟩] M fun r M' => Fr M M' [] ∧ ∃ p vb', r = .pointer (some ⟨p, 0, none⟩) ∧ Own M' vb' 1 (ints .u8 q.buf) ∧ ∃ vo ve ws, ActW M.length M' p (stepOf q) vb' vo ve ws := by
 have g1 := isSl_cl hv.isSl
 have o1 := isSl_one hv.isSl
 simp only [Value.oneCell'] at o1
 have P0 := Fr.push M (.box (pvL q vb))
 have A0 := At.push M (.box (pvL q vb))
 unfold pvL at P0 A0 ⊢
 (refine CallA.of_body Try.func67 rfl (by rfl) ?_; simp only [Try.ntmps67, List.length_cons, List.length_nil, List.replicate, List.cons_append, List.nil_append, Nat.reduceSub, Nat.reduceAdd])
 (repeat (first | refine st ?_ | refine σa ?_ | (refine σb ?_; simp (disch := omega) only [push_cast, ↓reduceIte, reduceCtorEq, ν1, ν2, ν3, ν4, ν5, ζ1, ζ2, ζ3, ζ4, ζ5, g1, o1, memE, boxE, buildE, lsE])))
 obtain ⟨t, ht⟩ : ∃ t, t = M.length := ⟨_, rfl⟩
 have hv0 := hv.keep P0 (by simp)
 rw [← ht] at A0 ⊢
 generalize hM0 : M ++ [Blk.box [.int .u32 q.conf.asn, .int .u32 q.conf.id, .int .i64 q.conf.hold, .int .u32 q.conf.peer, .int .i64 q.state, vb, .int .i64 q.hold, .int .i64 q.heard, .int .i64 q.said, .int .u32 q.id]] = M0 at *
 refine (clone_spec vb _ M0 hv0 hl).mono ?_
 rintro w M1 ⟨f1, n1⟩
 have A1 := A0.keep f1 (by simp)
 have g2 := isSl_cl n1.1.sl.isSl
 have o2 := isSl_one n1.1.sl.isSl
 simp only [Value.oneCell'] at o2
 have fs := Fr.set M1 t (.box (pvL q w))
 have As := A1.set (.box (pvL q w))
 have ns := n1.1.sl.keep fs (fun b hb hx => by have := n1.blk b hb; have := A0.lt; simp at hx; omega)
 have no := n1.1.keep fs (fun b hb hx => by have := n1.blk b hb; have := A0.lt; simp at hx; omega)
 have hls : (M1.set t (.box (pvL q w))).length = M1.length := List.length_set
 unfold pvL at fs As ns no hls
 (repeat (first | refine st ?_ | refine σa ?_ | (refine σb ?_; simp (disch := omega) only [push_cast, ↓reduceIte, reduceCtorEq, ν1, ν2, ν3, ν4, ν5, ζ1, ζ2, ζ3, ζ4, ζ5, A1.get, A1.same, As.ld, g2, o2, List.drop_nil, List.append_nil, boxE, buildE, lsE])))
 have hl0 := A0.lt
 have hl1 := f1.1
 generalize M1.set t (Blk.box [.int .u32 q.conf.asn, .int .u32 q.conf.id, .int .i64 q.conf.hold, .int .u32 q.conf.peer, .int .i64 q.state, w, .int .i64 q.hold, .int .i64 q.heard, .int .i64 q.said, .int .u32 q.id]) = M2 at *
 ((first | refine retA.ret (by rfl) ?_ | refine retA.normal (by rfl) ?_); simp (disch := omega) only [push_cast, ↓reduceIte, reduceCtorEq, Nat.reduceAdd, Nat.reduceMul, Nat.reduceLeDiff, Nat.reduceLT, Nat.reduceSub, Int.reduceNe, Int.reduceEq, Int.reduceLE, Int.reduceLT, Int.reduceToNat])
 have Pp := Fr.push M2 (.box (acL q w (.slice none 0 0) (.slice none 0 0)))
 have hpl : M.length ≤ M0.length := P0.1
 refine ⟨((P0.trans f1).trans (fs.trans Pp)).cut (fun c hc hlt => by simp at hc; omega), M2.length, by simp [hls], w, no.keep Pp (by simp), .slice none 0 0, .slice none 0 0, [], ⟨At.push M2 _, ns.keep Pp (by simp), Own.nil _ (by omega), Own.nil _ (by omega), rfl, (fun w h => by cases h), by omega, ?_, by simp [blkOf], by simp [blkOf], (fun w h => by cases h), (fun w h => by cases h)⟩⟩
 intro b hb
 have h1 := n1.blk b hb
 have h2 := n1.1.sl.blks b hb
 exact ⟨by omega, by omega, by simp [blkOf], by simp [blkOf]⟩
theorem pbegin_spec (q : PV) (vb : Value) (M : Mem) (hv : Sl M vb 1 (ints .u8 q.buf)) (hl : q.buf.length ≤ 1000000) : CallA Try.prog 67 [.agg ⟨pvL q vb⟩] M fun r M' => Fr M M' [] ∧ ∃ p, r = .pointer (some ⟨p, 0, none⟩) ∧ ActA M.length M' p (stepOf q) :=
 (pbegin_own q vb M hv hl).mono fun r M' ⟨f, p, vb', e, _, h⟩ => ⟨f, p, e, vb', h⟩
theorem pend_spec (lo p : Nat) (s : ST) (vb vo ve : Value) (ws : List EW) (M : Mem) (h : ActW lo M p s vb vo ve ws) : CallA Try.prog 69 [.pointer (some ⟨p, 0, none⟩)] M fun r M' => Fr M M' [] ∧ r = .tuple ⟨[.agg ⟨pvL s.p vb⟩, vo, ve]⟩ := by
 have g1 := isSl_cl h.buf.isSl
 have o1 := isSl_one h.buf.isSl
 have g2 := isSl_cl h.out.sl.isSl
 have g3 := isSl_cl h.evs.sl.isSl
 simp only [Value.oneCell'] at o1
 have b0 := h.box
 unfold acL at b0
 (refine CallA.of_body Try.func69 rfl (by rfl) ?_; simp only [Try.ntmps69, List.length_cons, List.length_nil, List.replicate, List.cons_append, List.nil_append, Nat.reduceSub, Nat.reduceAdd])
 have Pz := Fr.push M (.box [.int .u32 0, .int .u32 0, .int .i64 0, .int .u32 0, .int .i64 0, .slice none 0 0, .int .i64 0, .int .i64 0, .int .i64 0, .int .u32 0])
 have b1 := b0.keep Pz (by simp)
 have Pq := Fr.push M (.box (pvL s.p vb))
 have b2 := b0.keep Pq (by simp)
 unfold pvL at Pq b2 ⊢
 (repeat (first | refine st ?_ | refine σa ?_ | refine d69_Pe4 ?_ | ((first | refine a69_Pe4 ?_ | refine σb ?_ | refine σc ?_); simp (disch := omega) only [push_cast, ↓reduceIte, reduceCtorEq, ν1, ν2, ν3, ν4, ν5, ζ1, ζ2, ζ3, ζ4, ζ5, b1.ld, b2.ld, g1, g2, g3, o1, List.drop_nil, List.append_nil, memE, boxE, boxE, buildE, lsE])))
 ((first | refine retA.ret (by rfl) ?_ | refine retA.normal (by rfl) ?_); simp (disch := omega) only [push_cast, ↓reduceIte, reduceCtorEq, Nat.reduceAdd, Nat.reduceMul, Nat.reduceLeDiff, Nat.reduceLT, Nat.reduceSub, Int.reduceNe, Int.reduceEq, Int.reduceLE, Int.reduceLT, Int.reduceToNat, g1, g2, g3, memE, boxE, buildE])
 exact Pq
end Go.Proofs.Ytbdejnnbpdgjlaa.Ax
namespace Go.Proofs.Ytbdejnnbpdgjlaa.Ax
open Go Go.RowKit
set_option linter.unusedVariables false
set_option linter.unusedSimpArgs false
set_option maxRecDepth 100000
set_option maxHeartbeats 20000000
section
variable {P : Program} {ops : Array Oper} {todo done : List Nat} {Ls : List (Nat × LP)} {rest : List Oper} {K : List Value → Mem → Prop} {t : List Value} {M : Mem}
variable {i : Nat} {dst : Option Tmp} {type : TypeId} {pos : String} {after : Array Edge}
theorem AH.stG {ty : TypeId} {x y : Operand} (hok : okOpd x = true) (hok' : okOpd y = true) (h : ptrK (ev t x) fun b j => ∃ B, M[b]? = some B ∧ B.ours = true ∧ tsz P ty = some (cl (ev t y)).length ∧ 0 < (cl (ev t y)).length ∧ (cl (ev t y)).all Value.oneCell' = true ∧ j + (cl (ev t y)).length ≤ B.cells.length ∧
  ((∀ p ∈ Ls, p.2.holds (M.set b (B.put (spl B.cells j (cl (ev t y)))))) ∧ ADL P ops todo (i :: done) Ls K (putT t dst undef) (M.set b (B.put (spl B.cells j (cl (ev t y))))))) : AH P ops dst (.store ty x y) type pos after none i todo done Ls K t M := fun ho => by
 obtain ⟨b, j, hx, B, hB, h1, h2, h3, h4, h5, hc1, hc2⟩ := ptrK_elim h
 refine ADL.st ho hok hok' ?_
 rw [hx]
 refine ⟨B, hB, h1, h2, h3, h4, h5, fun p hp => hc1 p (List.mem_filter.1 hp).1, fun q1 q2 q3 => ?_⟩
 refine AD.drop (hc2 q1 q2 hc1) (fun p hp => ?_) (mem_map_ls hc1)
 obtain ⟨q, hq, rfl⟩ := List.mem_map.1 hp
 exact List.mem_map.2 ⟨q, (List.mem_filter.1 hq).1, rfl⟩
end
end Go.Proofs.Ytbdejnnbpdgjlaa.Ax
namespace Go.Proofs.Ytbdejnnbpdgjlaa.Ax
open Go Go.RowKit
open Nat renaming reduceAdd → ν1, reduceMul → ν2, reduceLeDiff → ν3, reduceLT → ν4, reduceSub → ν5
open Int renaming reduceNe → ζ1, reduceEq → ζ2, reduceLE → ζ3, reduceLT → ζ4, reduceToNat → ζ5
set_option linter.unusedVariables false
set_option linter.unusedSimpArgs false
set_option maxRecDepth 100000
set_option maxHeartbeats 20000000
attribute [local irreducible] thenA blockA scopeA retA AL AW AD ADL AH clrK CallA apure aload bload appK ptrK fnK ares szOk planOk okOps
theorem d106_Pe5 {g n : Prop} (k : n) (h : n → g := by first | exact AW.dr (id := 1) (by rfl) [0, 1, 2, 3, 4, 5, 6, 7, 8, 9] (by kernel_rfl) (by kernel_rfl) | exact AW.dr (id := 3) (by rfl) [0, 1, 2, 3, 4, 5, 6, 7, 8, 9] (by kernel_rfl) (by kernel_rfl) | exact AW.dr (id := 6) (by rfl) [0, 1, 2, 3, 4, 5, 6, 7, 8, 9, 10, 11, 12, 13] (by kernel_rfl) (by kernel_rfl) | exact AW.dr (id := 7) (by rfl) [0, 1, 2, 3, 4, 5, 6, 7, 8, 9, 10, 11, 12, 13, 14, 15, 16] (by kernel_rfl) (by kernel_rfl)) : g := h k
theorem a106_Pe5 {g n : Prop} (k : n) (h : n → g := by first | exact AH.stG (i := 8) (ty := 3) rfl rfl | exact AH.stG (i := 12) (ty := 3) rfl rfl) : g := h k
theorem ld_ne {P : Program} {ty : TypeId} {M : Mem} {s t j : Nat} {B : Blk} (h : s ≠ t) : aload P ty (M.set s B) t j = aload P ty M t j := by
 have : ∀ x, x ∈ ([] : List Nat) → False := by simp
 unfold aload
 have e : (M.set s B)[t]? = M[t]? := List.getElem?_set_ne h
 simp only [cellsM, cellM, e]
theorem ActW.len {lo : Nat} {M : Mem} {p : Nat} {s : ST} {vb vo ve : Value} {ws : List EW} (h : ActW lo M p s vb vo ve ws) : ws.length = s.evs.length := by
 have := congrArg List.length h.ews; rw [List.length_map] at this; exact this
theorem good_aliveM : goodM aliveM := by simp [goodM, aliveM, MV.zero, goodAV, AV.zero, u32]
theorem size_aliveM : sizeM aliveM := by simp [sizeM, aliveM, MV.zero, AV.zero]
theorem popen_spec (lo p : Nat) (s : ST) (vb vo ve : Value) (ws : List EW) (m : MV) (g a c n d : Value) (M : Mem) (h : ActW lo M p s vb vo ve ws) (hi : isSl g = true ∧ isSl a = true ∧ isSl c = true ∧ isSl n = true ∧ isSl d = true) (hl : s.out.length ≤ 10000000) (hle : s.evs.length ≤ 1000000) (hlo : lo ≤ M.length) :
  CallA Try.prog 106 [.pointer (some ⟨p, 0, none⟩), .agg ⟨mvL m g a c n d⟩] M fun r M' => r = .tuple ⟨[]⟩ ∧ FrL lo M M' ∧ ActA lo M' p (openS s m) := by
 have o1 := mvL_one (m := m) hi
 have P0 := Fr.push M (.box (mvL m g a c n d))
 have A0 := At.push M (.box (mvL m g a c n d))
 have h0 := h.keep P0
 have hp := h.lt
 (refine CallA.of_body Try.func106 rfl (by rfl) ?_; simp only [Try.ntmps106, List.length_cons, List.length_nil, List.replicate, List.cons_append, List.nil_append, Nat.reduceSub, Nat.reduceAdd])
 (repeat (first | refine st ?_ | refine σa ?_ | refine d106_Pe5 ?_ | ((first | refine a106_Pe5 ?_ | refine σb ?_ | refine σc ?_); simp (disch := omega) only [push_cast, ↓reduceIte, reduceCtorEq, ν1, ν2, ν3, ν4, ν5, ζ1, ζ2, ζ3, ζ4, ζ5, o1, lsE])))
 obtain ⟨t, ht⟩ : ∃ t, t = M.length := ⟨_, rfl⟩
 rw [← ht] at A0 hp ⊢
 generalize hM0 : M ++ [Blk.box (mvL m g a c n d)] = M0 at *
 have hl0 := A0.lt
 have A1 := A0
 unfold mvL at A1
 have b0 := h0.box
 unfold acL at b0
 have F0 : FrL lo M M0 := FrL.of P0 (by simp)
 have hlo0 : lo ≤ M0.length := by omega
 simp (disch := omega) only [push_cast, ↓reduceIte, reduceCtorEq, Nat.reduceAdd, Nat.reduceMul, Nat.reduceLeDiff, Nat.reduceLT, Nat.reduceSub, Int.reduceNe, Int.reduceEq, Int.reduceLE, Int.reduceLT, Int.reduceToNat, A1.ld, buildE]
 by_cases c1 : m.asn = s.p.conf.peer
 rotate_left
 ·have d1 : decide (m.asn = s.p.conf.peer) = false := decide_eq_false c1
  have e : openS s m = downP s 2 2 := by unfold openS; rw [if_pos c1]
  rw [e]
  (repeat (first | refine st ?_ | refine σa ?_ | refine d106_Pe5 ?_ | ((first | refine a106_Pe5 ?_ | refine σb ?_ | refine σc ?_); simp (disch := omega) only [push_cast, ↓reduceIte, reduceCtorEq, ν1, ν2, ν3, ν4, ν5, ζ1, ζ2, ζ3, ζ4, ζ5, A1.ld, b0.ld, d1, Bool.not_true, Bool.not_false, buildE, lsE])))
  refine (pdown_spec lo p s vb vo ve ws 2 2 M0 h0 hl hle hlo0).mono ?_
  rintro r M1 ⟨rfl, F1, h1⟩
  (repeat (first | refine st ?_ | refine σa ?_ | refine d106_Pe5 ?_ | ((first | refine a106_Pe5 ?_ | refine σb ?_ | refine σc ?_); simp (disch := omega) only [push_cast, ↓reduceIte, reduceCtorEq, ν1, ν2, ν3, ν4, ν5, ζ1, ζ2, ζ3, ζ4, ζ5, lsE])))
  ((first | refine retA.ret (by rfl) ?_ | refine retA.normal (by rfl) ?_); simp (disch := omega) only [push_cast, ↓reduceIte, reduceCtorEq, Nat.reduceAdd, Nat.reduceMul, Nat.reduceLeDiff, Nat.reduceLT, Nat.reduceSub, Int.reduceNe, Int.reduceEq, Int.reduceLE, Int.reduceLT, Int.reduceToNat])
  exact ⟨F0.trans F1, h1⟩
 have d1 : decide (m.asn = s.p.conf.peer) = true := decide_eq_true c1
 by_cases c2 : m.id = s.p.conf.id
 ·have d2 : decide (m.id = s.p.conf.id) = true := decide_eq_true c2
  have e : openS s m = downP s 2 3 := by unfold openS; rw [if_neg (by simp [c1]), if_pos c2]
  rw [e]
  (repeat (first | refine st ?_ | refine σa ?_ | refine d106_Pe5 ?_ | ((first | refine a106_Pe5 ?_ | refine σb ?_ | refine σc ?_); simp (disch := omega) only [push_cast, ↓reduceIte, reduceCtorEq, ν1, ν2, ν3, ν4, ν5, ζ1, ζ2, ζ3, ζ4, ζ5, A1.ld, b0.ld, d1, d2, Bool.not_true, Bool.not_false, buildE, lsE])))
  refine (pdown_spec lo p s vb vo ve ws 2 3 M0 h0 hl hle hlo0).mono ?_
  rintro r M1 ⟨rfl, F1, h1⟩
  (repeat (first | refine st ?_ | refine σa ?_ | refine d106_Pe5 ?_ | ((first | refine a106_Pe5 ?_ | refine σb ?_ | refine σc ?_); simp (disch := omega) only [push_cast, ↓reduceIte, reduceCtorEq, ν1, ν2, ν3, ν4, ν5, ζ1, ζ2, ζ3, ζ4, ζ5, lsE])))
  ((first | refine retA.ret (by rfl) ?_ | refine retA.normal (by rfl) ?_); simp (disch := omega) only [push_cast, ↓reduceIte, reduceCtorEq, Nat.reduceAdd, Nat.reduceMul, Nat.reduceLeDiff, Nat.reduceLT, Nat.reduceSub, Int.reduceNe, Int.reduceEq, Int.reduceLE, Int.reduceLT, Int.reduceToNat])
  exact ⟨F0.trans F1, h1⟩
 have d2 : decide (m.id = s.p.conf.id) = false := decide_eq_false c2
 have hmin : (if m.hold < s.p.conf.hold then m.hold else s.p.conf.hold) = min s.p.conf.hold m.hold := by split <;> omega
 have hpt : p ≠ t := by omega
 have hp0 : p < M0.length := by omega
 have so := h.out.sl.isSl
 have co := isSl_cl so
 have oo := isSl_one so
 have se := h.evs.sl.isSl
 have ce := isSl_cl se
 have oe := isSl_one se
 have sb := h.buf.isSl
 have cb := isSl_cl sb
 have ob := isSl_one sb
 simp only [Value.oneCell'] at oo oe ob
 (repeat (first | refine st ?_ | refine σa ?_ | refine d106_Pe5 ?_ | ((first | refine a106_Pe5 ?_ | refine σb ?_ | refine σc ?_); simp (disch := omega) only [push_cast, ↓reduceIte, reduceCtorEq, ν1, ν2, ν3, ν4, ν5, ζ1, ζ2, ζ3, ζ4, ζ5, A1.ld, ld_ne, b0.ld, b0.get, b0.same, d1, d2, hmin, co, oo, ce, oe, cb, ob, List.drop_nil, List.append_nil, Bool.not_true, Bool.not_false, boxE, buildE, lsE])))
 obtain ⟨h1, F1⟩ := h0.setP { s.p with state := 3, hold := min s.p.conf.hold m.hold, heard := 0, said := 0, id := m.id } h0.buf h0.lob
 unfold acL at h1 F1
 dsimp only at h1 F1
 have hlm : (M0.set p (.box [.int .u32 s.p.conf.asn, .int .u32 s.p.conf.id, .int .i64 s.p.conf.hold, .int .u32 s.p.conf.peer, .int .i64 3, vb, .int .i64 (min s.p.conf.hold m.hold), .int .i64 0, .int .i64 0, .int .u32 m.id, vo, ve])).length = M0.length := List.length_set
 refine (psay_spec lo p _ vb vo ve ws aliveM (.slice none 0 0) (.slice none 0 0) (.slice none 0 0) (.slice none 0 0) (.slice none 0 0) _ h1 (MVin.nils _ ⟨rfl, rfl, rfl, rfl, rfl⟩) good_aliveM size_aliveM hl (by rw [List.length_set]; exact hlo0)).mono ?_
 rintro r M1 ⟨rfl, F2, h2⟩
 (repeat (first | refine st ?_ | refine σa ?_ | refine d106_Pe5 ?_ | ((first | refine a106_Pe5 ?_ | refine σb ?_ | refine σc ?_); simp (disch := omega) only [push_cast, ↓reduceIte, reduceCtorEq, ν1, ν2, ν3, ν4, ν5, ζ1, ζ2, ζ3, ζ4, ζ5, lsE])))
 ((first | refine retA.ret (by rfl) ?_ | refine retA.normal (by rfl) ?_); simp (disch := omega) only [push_cast, ↓reduceIte, reduceCtorEq, Nat.reduceAdd, Nat.reduceMul, Nat.reduceLeDiff, Nat.reduceLT, Nat.reduceSub, Int.reduceNe, Int.reduceEq, Int.reduceLE, Int.reduceLT, Int.reduceToNat])
 have e : openS s m = sayP { s with p := { s.p with state := 3, hold := min s.p.conf.hold m.hold, heard := 0, said := 0, id := m.id } } aliveM := by unfold openS; rw [if_neg (by simp [c1]), if_neg c2]
 rw [e]
 exact ⟨(F0.trans F1).trans F2, h2⟩
end Go.Proofs.Ytbdejnnbpdgjlaa.Ax
