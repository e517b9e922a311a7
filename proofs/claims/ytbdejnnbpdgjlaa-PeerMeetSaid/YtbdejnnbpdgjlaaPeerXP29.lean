/- Contracts of functions over the abstract machine. No conditions: lemmas alone. -/
import Derived.Test.YtbdejnnbpdgjlaaPeerXLibD
import Derived.Test.YtbdejnnbpdgjlaaPeerXP0
import Derived.Test.YtbdejnnbpdgjlaaPeerXP27
import Derived.Test.YtbdejnnbpdgjlaaPeerXP28
import Derived.Test.YtbdejnnbpdgjlaaPeerXP23
import Derived.Test.YtbdejnnbpdgjlaaPeerXP15
import Derived.Test.YtbdejnnbpdgjlaaPeerXP17
import Derived.Test.YtbdejnnbpdgjlaaPeerXP24
namespace Go.Proofs.Ytbdejnnbpdgjlaa.Ax
open Go Go.RowKit
open Nat renaming reduceAdd → ν1, reduceMul → ν2, reduceLeDiff → ν3, reduceLT → ν4, reduceSub → ν5
open Int renaming reduceNe → ζ1, reduceEq → ζ2, reduceLE → ζ3, reduceLT → ζ4, reduceToNat → ζ5
set_option linter.unusedVariables false
set_option linter.unusedSimpArgs false
set_option maxRecDepth 100000
set_option maxHeartbeats 20000000
attribute [local irreducible] thenA blockA scopeA retA AL AW AD ADL AH clrK CallA apure aload bload appK ptrK fnK ares szOk planOk okOps
def EvO (lo : Nat) (M : Mem) (r : Value) (s : ST) : Prop := ∃ vb vo ve ws, r = .tuple ⟨[.agg ⟨pvL s.p vb⟩, vo, ve]⟩ ∧ Sl M vb 1 (ints .u8 s.p.buf) ∧ (s.p.buf ≠ [] → Own M vb 1 (ints .u8 s.p.buf)) ∧ Sl M vo 1 (ints .u8 s.out) ∧ Sl M ve 18 (evsL ws) ∧ ws.map EW.e = s.evs ∧ (∀ w ∈ ws, w.good M) ∧ (∀ b ∈ blkOf vb, lo ≤ b) ∧ (∀ b ∈ blkOf vo, lo ≤ b) ∧ (∀ b ∈ blkOf ve, lo ≤ b) ∧ ∀ w ∈ ws, ∀ b ∈ w.blk, lo ≤ b
theorem ActW.fed {lo : Nat} {M M' : Mem} {p : Nat} {s : ST} {vb vo ve v' : Value} {bs : List Int} (h : ActW lo M p s vb vo ve []) (hN : New M M' v' 1 (ints .u8 (s.p.buf ++ bs))) (hF : Fr M M' (blkOf vb)) :
  ActW lo (M'.set p (.box (acL { s.p with buf := s.p.buf ++ bs } v' vo ve))) p { s with p := { s.p with buf := s.p.buf ++ bs } } v' vo ve [] ∧ FrL lo M (M'.set p (.box (acL { s.p with buf := s.p.buf ++ bs } v' vo ve))) := by
 have hp := h.lt
 have nb := hN.blk
 have fs := Fr.set M' p (.box (acL { s.p with buf := s.p.buf ++ bs } v' vo ve))
 have bx' := h.box.keep hF (fun hx => (h.lob p hx).2.1 rfl)
 have hlo := h.out.sl.blks
 have hle := h.evs.sl.blks
 have hlop := h.lop
 refine ⟨⟨bx'.set _, hN.1.sl.keep fs (fun b hb hx => by have := nb b hb; simp at hx; omega), (h.out.keep hF (fun b hb hx => (h.lob b hx).2.2.1 hb)).keep fs (fun b hb hx => (h.loo b hb).2.1 (by simpa using hx)),
  (h.evs.keep hF (fun b hb hx => (h.lob b hx).2.2.2 hb)).keep fs (fun b hb hx => (h.loe b hb).2 (by simpa using hx)), h.ews, (fun w hw => by cases hw), h.lop, ?_, h.loo, h.loe, (fun w hw => by cases hw), (fun w hw => by cases hw)⟩, ?_⟩
 ·intro b hb
  have := nb b hb
  exact ⟨by omega, by omega, fun hx => by have := hlo b hx; omega, fun hx => by have := hle b hx; omega⟩
 ·refine FrL.of (hF.trans fs) ?_
  intro b hb
  rcases List.mem_append.1 hb with hb | hb
  ·exact (h.lob b hb).1
  ·rw [List.mem_singleton] at hb; rw [hb]; exact h.lop
def FdJ (M2 : Mem) (t : Nat) (fin : ST) (n : Nat) (v4 v5 v6 v7 : Value) (M' : Mem) : Prop := ∃ s p w vo ve ws, v4 = .pointer (some ⟨t + 1, 0, none⟩) ∧ v7 = .pointer (some ⟨p, 0, none⟩) ∧ ActW M2.length M' p s w vo ve ws ∧ FrL M2.length M2 M' ∧ fin = feedS n s ∧ s.p.buf.length < n ∧ bytesL s.p.buf ∧ 1 ≤ s.p.state ∧ s.p.state ≤ 4 ∧ s.out.length + 100 * s.p.buf.length ≤ 10000000 ∧ s.evs.length + s.p.buf.length ≤ 900000 ∧ (s.p.state = 1 → s.p.buf = [])
theorem pfeed_spec (q : PV) (vb vx : Value) (bs : List Int) (M : Mem) (hv : Sl M vb 1 (ints .u8 q.buf)) (hx : Sl M vx 1 (ints .u8 bs)) (hb1 : bytesL q.buf) (hb2 : bytesL bs) (hl : q.buf.length + bs.length ≤ 90000) : CallA Try.prog 29 [.agg ⟨pvL q vb⟩, vx] M fun r M' => Fr M M' [] ∧ EvO M.length M' r (feedP q bs) := by
 have g1 := isSl_cl hv.isSl
 have o1 := isSl_one hv.isSl
 simp only [Value.oneCell'] at o1
 have P2 := Fr.push2 M (.box (pvL q vb)) (.box (pvL (freshP CF.zero 0) (.slice none 0 0)))
 have A2 := (At.push M (.box (pvL q vb))).keep (Fr.push _ (.box (pvL (freshP CF.zero 0) (.slice none 0 0)))) (by simp)
 have B2 := At.push (M ++ [.box (pvL q vb)]) (.box (pvL (freshP CF.zero 0) (.slice none 0 0)))
 rw [List.length_append, List.length_singleton] at B2
 unfold pvL freshP CF.zero at P2 A2 B2
 dsimp only at P2 A2 B2
 have hs0 := hv.isSl
 have hx2 := hx.keep P2 (by simp)
 unfold pvL
 (refine CallA.of_body Try.func29 rfl (by rfl) ?_; simp only [Try.ntmps29, List.length_cons, List.length_nil, List.replicate, List.cons_append, List.nil_append, Nat.reduceSub, Nat.reduceAdd])
 (repeat (first | refine st ?_ | refine σa ?_ | (refine σb ?_; simp (disch := omega) only [push_cast, ↓reduceIte, reduceCtorEq, ν1, ν2, ν3, ν4, ν5, ζ1, ζ2, ζ3, ζ4, ζ5, mem2E, g1, o1, buildE, lsE])))
 generalize M ++ [Blk.box [.int .u32 q.conf.asn, .int .u32 q.conf.id, .int .i64 q.conf.hold, .int .u32 q.conf.peer, .int .i64 q.state, vb, .int .i64 q.hold, .int .i64 q.heard, .int .i64 q.said, .int .u32 q.id]] ++ [Blk.box [.int .u32 0, .int .u32 0, .int .i64 0, .int .u32 0, .int .i64 0, .slice none 0 0, .int .i64 0, .int .i64 0, .int .i64 0, .int .u32 0]] = M2 at *
 obtain ⟨t, ht⟩ : ∃ t, t = M.length := ⟨_, rfl⟩
 rw [← ht] at A2 B2 ⊢
 have l2 := B2.lt
 refine AW.scopeK 0 9 100 (fun n g M' => FdJ M2 t (feedP q bs) n (g 4) (g 5) (g 6) (g 7) M') (fun _ _ => False) ?_ ?_ ?_
 ·rintro n g M4 ⟨s, p, w, vo, ve, ws, e4, e7, h4, F4, hfin, hlen, hby, hs1, hs4, hol, hel, hidle⟩
  have hlp := h4.lop
  have B4 := B2.keepL F4 (by omega)
  have b4 := h4.box
  unfold acL at b4
  obtain ⟨f, rfl⟩ : ∃ f, n = f + 1 := ⟨n - 1, by omega⟩
  show AW _ (.seq _ _) _ _ _
  simp (disch := omega) only [push_cast, ↓reduceIte, reduceCtorEq, Nat.reduceAdd, Nat.reduceMul, Nat.reduceLeDiff, Nat.reduceLT, Nat.reduceSub, Int.reduceNe, Int.reduceEq, Int.reduceLE, Int.reduceLT, Int.reduceToNat, lstOf_zero, lstOf_succ, e4, e7]
  by_cases i1 : s.p.state = 1
  ·have d1 : decide (s.p.state = 1) = true := decide_eq_true i1
   have e : feedP q bs = s := by rw [hfin]; exact feed_idle _ s i1
   rw [e]
   (repeat (first | refine st ?_ | refine σa ?_ | (refine σb ?_; simp (disch := omega) only [push_cast, ↓reduceIte, reduceCtorEq, ν1, ν2, ν3, ν4, ν5, ζ1, ζ2, ζ3, ζ4, ζ5, b4.ld, d1, buildE, lsE])))
   refine (pend_spec _ p _ w vo ve ws M4 h4).mono ?_
   rintro r ME ⟨fE, rfl⟩
   have hE := h4.keep fE
   have BE := B4.keep fE (by simp)
   have q1 := isSl_cl hE.buf.isSl
   have q2 := isSl_one hE.buf.isSl
   have q3 := isSl_cl hE.out.sl.isSl
   have q4 := isSl_cl hE.evs.sl.isSl
   simp only [Value.oneCell'] at q2
   have Fs := Fr.set ME (t + 1) (.box (pvL (s).p w))
   have Bs := BE.set (.box (pvL (s).p w))
   have sw : (s).p.buf ≠ [] → Own (ME.set (t + 1) (.box (pvL (s).p w))) w 1 (ints .u8 (s).p.buf) := fun hne => (((False.elim (hne (hidle i1)) : Own M4 w 1 (ints .u8 s.p.buf))).keep fE (by simp)).keep Fs (fun b hb hx => by have := (hE.lob b hb).1; simp at hx; omega)
   have sb := hE.buf.keep Fs (fun b hb hx => by have := (hE.lob b hb).1; simp at hx; omega)
   have so := hE.out.sl.keep Fs (fun b hb hx => by have := (hE.loo b hb).1; simp at hx; omega)
   have se := hE.evs.sl.keep Fs (fun b hb hx => by have := (hE.loe b hb).1; simp at hx; omega)
   have sg : ∀ x ∈ ws, x.good (ME.set (t + 1) (.box (pvL (s).p w))) := fun x hx => (hE.good x hx).keep Fs (fun b hb hx' => by have := hE.lom x hx b hb; simp at hx'; omega)
   unfold pvL at Fs Bs sw sb so se sg ⊢
   (repeat (first | refine st ?_ | refine σa ?_ | (refine σb ?_; simp (disch := omega) only [push_cast, ↓reduceIte, reduceCtorEq, ν1, ν2, ν3, ν4, ν5, ζ1, ζ2, ζ3, ζ4, ζ5, BE.get, BE.same, q1, q2, q3, q4, List.drop_nil, List.append_nil, Bool.not_true, Bool.not_false, boxE, buildE, lsE])))
   ((first | refine retA.ret (by rfl) ?_ | refine retA.normal (by rfl) ?_); simp (disch := omega) only [push_cast, ↓reduceIte, reduceCtorEq, Nat.reduceAdd, Nat.reduceMul, Nat.reduceLeDiff, Nat.reduceLT, Nat.reduceSub, Int.reduceNe, Int.reduceEq, Int.reduceLE, Int.reduceLT, Int.reduceToNat, Bs.ld, q1, q2, q3, q4, buildE])
   exact ⟨((P2.trans ((F4).trans (FrL.of fE (by simp)) |>.fr (Nat.le_refl _))).trans Fs).cut (fun c hc hlt => by simp at hc; omega), w, vo, ve, ws, rfl, sb, sw, so, se, hE.ews, sg, fun b hb => by have := (hE.lob b hb).1; omega, fun b hb => by have := (hE.loo b hb).1; omega, fun b hb => by have := (hE.loe b hb).1; omega, fun x hx b hb => by have := hE.lom x hx b hb; omega⟩
  have d1 : decide (s.p.state = 1) = false := decide_eq_false i1
  have hbl : s.p.buf.length ≤ 900000 := by omega
  (repeat (first | refine st ?_ | refine σa ?_ | (refine σb ?_; simp (disch := omega) only [push_cast, ↓reduceIte, reduceCtorEq, ν1, ν2, ν3, ν4, ν5, ζ1, ζ2, ζ3, ζ4, ζ5, b4.ld, d1, buildE, lsE])))
  obtain ⟨m, nn, f1, f2, hR⟩ : ∃ m nn f1 f2, readM s.p.buf = (m, nn, (f1, f2)) := ⟨_, _, _, _, rfl⟩
  refine mreadK h4.buf (by omega) hby hR fun M5 g a c nw d f5 hin o5 hsl hbk => ?_
  have h5 := h4.keep f5
  have F5 := F4.trans (FrL.of f5 (by simp))
  have P7 := Fr.push2 M5 (.box (mvL m g a c nw d)) (.box [.int .i64 f1, .int .i64 f2])
  have A7 := (At.push M5 (.box (mvL m g a c nw d))).keep (Fr.push _ (.box [.int .i64 f1, .int .i64 f2])) (by simp)
  have B7 := At.push (M5 ++ [.box (mvL m g a c nw d)]) (.box [.int .i64 f1, .int .i64 f2])
  rw [List.length_append, List.length_singleton] at B7
  have h7 := h5.keep P7
  have hin7 := hin.keep P7 (by simp)
  have F7 := F5.trans (FrL.of P7 (by simp))
  have hbk7 : ∀ b ∈ blkOf g ++ (blkOf a ++ (blkOf c ++ (blkOf nw ++ blkOf d))), M4.length ≤ b := hbk
  have C7 := B2.keepL F7 (by omega)
  have hl4 := F4.1
  have hl5 := f5.1
  have hp4 := h4.lt
  have b7 := h7.box
  unfold acL at b7
  have dft : aeqV Try.prog 3 46 (.agg ⟨[.int .i64 f1, .int .i64 f2]⟩) (.agg ⟨[.int .i64 0, .int .i64 0]⟩) = some (decide ((f1, f2) = (0, 0))) := ft_eq f1 f2 0 0
  (repeat (first | refine st ?_ | refine σn ?_ | (refine σb ?_; simp (disch := omega) only [push_cast, ↓reduceIte, reduceCtorEq, ν1, ν2, ν3, ν4, ν5, ζ1, ζ2, ζ3, ζ4, ζ5, mvL_len, o5, mem2E, B7.ld, ft_eq, aggB, List.drop_nil, List.append_nil, memE, boxE, boxE, buildE, lsE])))
  generalize M5 ++ [.box (mvL m g a c nw d)] ++ [.box [.int .i64 f1, .int .i64 f2]] = M7 at *
  have hb7 := h7.buf
  have k1 := isSl_cl h7.out.sl.isSl
  have k2 := isSl_one h7.out.sl.isSl
  have k3 := isSl_cl h7.evs.sl.isSl
  have k4 := isSl_one h7.evs.sl.isSl
  simp only [Value.oneCell'] at k2 k4
  have hM7 := P7.1
  rcases readM_cases hby with h | ⟨m', h, r1, r2, r3, r4, r5, gr, gg⟩ | ⟨⟨p1, p2⟩, h, hne', hcs, _⟩
  ·rw [hR] at h
   cases h
   have dd : decide ((0 : Int) = 0 ∧ (0 : Int) = 0) = true := rfl
   have d0 : decide ((0 : Int) = 0) = true := rfl
   have e : feedP q bs = s := by rw [hfin]; unfold feedS; rw [if_neg i1, hR, if_neg (by simp), if_pos rfl]
   rw [e]
   simp (disch := omega) only [push_cast, ↓reduceIte, reduceCtorEq, Nat.reduceAdd, Nat.reduceMul, Nat.reduceLeDiff, Nat.reduceLT, Nat.reduceSub, Int.reduceNe, Int.reduceEq, Int.reduceLE, Int.reduceLT, Int.reduceToNat, dd, Bool.not_true]
   (repeat (first | refine st ?_ | refine σa ?_ | (refine σb ?_; simp (disch := omega) only [push_cast, ↓reduceIte, reduceCtorEq, ν1, ν2, ν3, ν4, ν5, ζ1, ζ2, ζ3, ζ4, ζ5, d0, b7.ld, b7.get, b7.same, Bool.not_true, Bool.not_false, buildE, lsE])))
   refine (clone_spec w _ M7 hb7 (by omega)).mono ?_
   rintro w8 M8 ⟨f8, n8⟩
   have h8 := h7.keep f8
   have b8 := h8.box
   have nb8 := n8.blk
   have lo8 := h7.out.sl.blks
   have le8 := h7.evs.sl.blks
   have lp8 := h7.lt
   obtain ⟨h9, F9⟩ := h8.setP s.p n8.1.sl (fun b hb => by have := nb8 b hb; exact ⟨by omega, by omega, fun hx => by have := lo8 b hx; omega, fun hx => by have := le8 b hx; omega⟩)
   have fs9 := Fr.set M8 p (.box (acL s.p w8 vo ve))
   have n9 := n8.1.keep fs9 (fun b hb hx => by have := nb8 b hb; simp at hx; omega)
   have FG := (F7.trans (FrL.of f8 (by simp))).trans F9
   have B9 := (C7.keep f8 (by simp)).keepL F9 (by omega)
   have c8 := isSl_cl n8.1.sl.isSl
   have o8 := isSl_one n8.1.sl.isSl
   simp only [Value.oneCell'] at o8
   unfold acL at b8 h9 F9 n9 FG B9
   (repeat (first | refine st ?_ | refine σa ?_ | (refine σb ?_; simp (disch := omega) only [push_cast, ↓reduceIte, reduceCtorEq, ν1, ν2, ν3, ν4, ν5, ζ1, ζ2, ζ3, ζ4, ζ5, b8.get, b8.same, c8, o8, k1, k2, k3, k4, List.drop_nil, List.append_nil, boxE, buildE, lsE])))
   refine (pend_spec _ p _ w8 vo ve ws _ h9).mono ?_
   rintro r ME ⟨fE, rfl⟩
   have hE := h9.keep fE
   have BE := B9.keep fE (by simp)
   have q1 := isSl_cl hE.buf.isSl
   have q2 := isSl_one hE.buf.isSl
   have q3 := isSl_cl hE.out.sl.isSl
   have q4 := isSl_cl hE.evs.sl.isSl
   simp only [Value.oneCell'] at q2
   have Fs := Fr.set ME (t + 1) (.box (pvL (s).p w8))
   have Bs := BE.set (.box (pvL (s).p w8))
   have sw : (s).p.buf ≠ [] → Own (ME.set (t + 1) (.box (pvL (s).p w8))) w8 1 (ints .u8 (s).p.buf) := fun hne => ((n9).keep fE (by simp)).keep Fs (fun b hb hx => by have := (hE.lob b hb).1; simp at hx; omega)
   have sb := hE.buf.keep Fs (fun b hb hx => by have := (hE.lob b hb).1; simp at hx; omega)
   have so := hE.out.sl.keep Fs (fun b hb hx => by have := (hE.loo b hb).1; simp at hx; omega)
   have se := hE.evs.sl.keep Fs (fun b hb hx => by have := (hE.loe b hb).1; simp at hx; omega)
   have sg : ∀ x ∈ ws, x.good (ME.set (t + 1) (.box (pvL (s).p w8))) := fun x hx => (hE.good x hx).keep Fs (fun b hb hx' => by have := hE.lom x hx b hb; simp at hx'; omega)
   unfold pvL at Fs Bs sw sb so se sg ⊢
   (repeat (first | refine st ?_ | refine σa ?_ | (refine σb ?_; simp (disch := omega) only [push_cast, ↓reduceIte, reduceCtorEq, ν1, ν2, ν3, ν4, ν5, ζ1, ζ2, ζ3, ζ4, ζ5, BE.get, BE.same, q1, q2, q3, q4, List.drop_nil, List.append_nil, Bool.not_true, Bool.not_false, boxE, buildE, lsE])))
   ((first | refine retA.ret (by rfl) ?_ | refine retA.normal (by rfl) ?_); simp (disch := omega) only [push_cast, ↓reduceIte, reduceCtorEq, Nat.reduceAdd, Nat.reduceMul, Nat.reduceLeDiff, Nat.reduceLT, Nat.reduceSub, Int.reduceNe, Int.reduceEq, Int.reduceLE, Int.reduceLT, Int.reduceToNat, Bs.ld, q1, q2, q3, q4, buildE])
   exact ⟨((P2.trans ((FG).trans (FrL.of fE (by simp)) |>.fr (Nat.le_refl _))).trans Fs).cut (fun c hc hlt => by simp at hc; omega), w8, vo, ve, ws, rfl, sb, sw, so, se, hE.ews, sg, fun b hb => by have := (hE.lob b hb).1; omega, fun b hb => by have := (hE.loo b hb).1; omega, fun b hb => by have := (hE.loe b hb).1; omega, fun x hx b hb => by have := hE.lom x hx b hb; omega⟩
  ·rw [hR] at h
   cases h
   obtain ⟨n, hn⟩ : ∃ n : Nat, pairAt s.p.buf 16 = n := ⟨(pairAt s.p.buf 16).toNat, by omega⟩
   rw [hn] at r1 r2 r3 hR ⊢
   have dd : decide ((0 : Int) = 0 ∧ (0 : Int) = 0) = true := rfl
   have d0 : decide ((n : Int) = 0) = false := decide_eq_false (by omega)
   have e : feedP q bs = feedS f (takeS { s with p := { s.p with buf := s.p.buf.drop n } } m) := by
    rw [hfin, feedS, if_neg i1, hR, if_neg (by simp), if_neg (by show ¬ (n : Int) = 0; omega)]
    rfl
   obtain ⟨w2, hw2', p2⟩ := hb7.pcFrom n (by omega)
   have sz7 := hb7.sz
   have c8 := isSl_cl p2.sl.isSl
   have o8 := isSl_one p2.sl.isSl
   simp only [Value.oneCell'] at o8
   obtain ⟨s8, hs8⟩ : ∃ s8 : ST, s8 = { s with p := { s.p with buf := s.p.buf.drop n } } := ⟨_, rfl⟩
   rw [← hs8] at e
   obtain ⟨h8, F8⟩ := h7.setP { s.p with buf := s.p.buf.drop n } p2.sl (fun b hb => h7.lob b (p2.blk b hb))
   have fs8 := Fr.set M7 p (.box (acL { s.p with buf := s.p.buf.drop n } w2 vo ve))
   have lp7 := h7.lt
   have hpM5 : p < M5.length := h5.lt
   have hin8 := hin7.keepX fs8 (fun b hb hx => by have := hbk7 b hb; simp at hx; omega)
   have hl8 : (M7.set p (.box (acL { s.p with buf := s.p.buf.drop n } w2 vo ve))).length = M7.length := List.length_set
   rw [← hs8] at h8
   unfold acL at h8 F8 hin8 hl8
   dsimp only at h8 F8 hin8 hl8
   have hpne : p ≠ M5.length := by omega
   simp (disch := omega) only [push_cast, ↓reduceIte, reduceCtorEq, Nat.reduceAdd, Nat.reduceMul, Nat.reduceLeDiff, Nat.reduceLT, Nat.reduceSub, Int.reduceNe, Int.reduceEq, Int.reduceLE, Int.reduceLT, Int.reduceToNat, dd, Bool.not_true]
   (repeat (first | refine st ?_ | refine σa ?_ | (refine σb ?_; simp (disch := omega) only [push_cast, ↓reduceIte, reduceCtorEq, ν1, ν2, ν3, ν4, ν5, ζ1, ζ2, ζ3, ζ4, ζ5, d0, b7.ld, b7.get, b7.same, sz7, hw2', Option.map_none, c8, o8, k1, k2, k3, k4, ld_ne, A7.ld, mvL_ld, mvL_len, o5, Bool.not_true, Bool.not_false, List.drop_nil, List.append_nil, boxE, buildE, lsE])))
   have hst8 : s8.p.state = s.p.state := by rw [hs8]
   have hb8 : s8.p.buf = s.p.buf.drop n := by rw [hs8]
   have ho8 : s8.out = s.out := by rw [hs8]
   have hv8 : s8.evs = s.evs := by rw [hs8]
   have hd8 : s8.p.buf.length = s.p.buf.length - n := by rw [hb8]; exact List.length_drop
   have lo7 := h4.out.sl.blks
   have le7 := h4.evs.sl.blks
   refine (ptake_spec M2.length p s8 w2 vo ve ws m g a c nw d _ h8 hin8 (fun b hb => by have := hbk7 b hb; exact ⟨by omega, fun hx => by have := lo7 b hx; omega, fun hx => by have := le7 b hx; omega⟩) (fun b hb => by have := hbk7 b hb; omega) (by rw [hst8]; omega) (by rw [ho8]; omega) (by rw [hv8]; omega) (by rw [hl8]; exact F7.1)).mono ?_
   rintro r M9 ⟨rfl, F9, w9, vo9, ve9, ws9, h9⟩
   (repeat (first | refine st ?_ | refine σa ?_ | (refine σb ?_; simp (disch := omega) only [push_cast, ↓reduceIte, reduceCtorEq, ν1, ν2, ν3, ν4, ν5, ζ1, ζ2, ζ3, ζ4, ζ5, lsE])))
   have q1 := take_state s8 m (by rw [hst8]; omega)
   have q2 := take_out s8 m
   rw [ho8] at q2
   have q3 : (takeS s8 m).p.buf.length ≤ s.p.buf.length - n ∧ bytesL (takeS s8 m).p.buf := by
    rcases take_buf s8 m with k | k
    ·rw [k]; exact ⟨by omega, by rw [hb8]; exact hby.drop _⟩
    ·rw [k]; exact ⟨Nat.zero_le _, fun x hx => by cases hx⟩
   have q4 : (takeS s8 m).evs.length ≤ s.evs.length + 1 := by
    rcases take_ev s8 m with k | ⟨ev, k, _⟩
    ·rw [k, hv8]; omega
    ·rw [k, hv8, List.length_append]; exact Nat.le_refl _
   exact scopeA.goto rfl f (fun k hk => by cases hk; omega) ⟨rfl, .inl ⟨rfl, takeS s8 m, p, w9, vo9, ve9, ws9, rfl, rfl, h9, (F7.trans F8).trans F9, e, by omega, q3.2, q1.1, q1.2, by omega, by omega, take_idle s8 m (by rw [hst8]; exact i1)⟩⟩
  ·rw [hR] at h
   cases h
   have dd : decide (f1 = 0 ∧ f2 = 0) = false := decide_eq_false (fun h => hne' (by rw [h.1, h.2]))
   have e : feedP q bs = downP s f1 f2 := by rw [hfin]; unfold feedS; rw [if_neg i1, hR, if_pos hne']
   rw [e]
   simp (disch := omega) only [push_cast, ↓reduceIte, reduceCtorEq, Nat.reduceAdd, Nat.reduceMul, Nat.reduceLeDiff, Nat.reduceLT, Nat.reduceSub, Int.reduceNe, Int.reduceEq, Int.reduceLE, Int.reduceLT, Int.reduceToNat, dd, Bool.not_false]
   (repeat (first | refine st ?_ | refine σa ?_ | (refine σb ?_; simp (disch := omega) only [push_cast, ↓reduceIte, reduceCtorEq, ν1, ν2, ν3, ν4, ν5, ζ1, ζ2, ζ3, ζ4, ζ5, B7.ld, Bool.not_true, Bool.not_false, buildE, lsE])))
   refine (pdown_spec M2.length p s w vo ve ws f1 f2 M7 h7 (by omega) (by omega) (by omega)).mono ?_
   rintro r M8 ⟨rfl, F8, w8, vo8, ve8, ws8, h8⟩
   have FG := F7.trans F8
   have B8 := C7.keepL F8 (by omega)
   (repeat (first | refine st ?_ | refine σa ?_ | (refine σb ?_; simp (disch := omega) only [push_cast, ↓reduceIte, reduceCtorEq, ν1, ν2, ν3, ν4, ν5, ζ1, ζ2, ζ3, ζ4, ζ5, lsE])))
   refine (pend_spec _ p _ w8 vo8 ve8 ws8 M8 h8).mono ?_
   rintro r ME ⟨fE, rfl⟩
   have hE := h8.keep fE
   have BE := B8.keep fE (by simp)
   have q1 := isSl_cl hE.buf.isSl
   have q2 := isSl_one hE.buf.isSl
   have q3 := isSl_cl hE.out.sl.isSl
   have q4 := isSl_cl hE.evs.sl.isSl
   simp only [Value.oneCell'] at q2
   have Fs := Fr.set ME (t + 1) (.box (pvL (downP s f1 f2).p w8))
   have Bs := BE.set (.box (pvL (downP s f1 f2).p w8))
   have sw : (downP s f1 f2).p.buf ≠ [] → Own (ME.set (t + 1) (.box (pvL (downP s f1 f2).p w8))) w8 1 (ints .u8 (downP s f1 f2).p.buf) := fun hne => (((False.elim (hne rfl) : Own M8 w8 1 (ints .u8 (downP s f1 f2).p.buf))).keep fE (by simp)).keep Fs (fun b hb hx => by have := (hE.lob b hb).1; simp at hx; omega)
   have sb := hE.buf.keep Fs (fun b hb hx => by have := (hE.lob b hb).1; simp at hx; omega)
   have so := hE.out.sl.keep Fs (fun b hb hx => by have := (hE.loo b hb).1; simp at hx; omega)
   have se := hE.evs.sl.keep Fs (fun b hb hx => by have := (hE.loe b hb).1; simp at hx; omega)
   have sg : ∀ x ∈ ws8, x.good (ME.set (t + 1) (.box (pvL (downP s f1 f2).p w8))) := fun x hx => (hE.good x hx).keep Fs (fun b hb hx' => by have := hE.lom x hx b hb; simp at hx'; omega)
   unfold pvL at Fs Bs sw sb so se sg ⊢
   (repeat (first | refine st ?_ | refine σa ?_ | (refine σb ?_; simp (disch := omega) only [push_cast, ↓reduceIte, reduceCtorEq, ν1, ν2, ν3, ν4, ν5, ζ1, ζ2, ζ3, ζ4, ζ5, BE.get, BE.same, q1, q2, q3, q4, List.drop_nil, List.append_nil, Bool.not_true, Bool.not_false, boxE, buildE, lsE])))
   ((first | refine retA.ret (by rfl) ?_ | refine retA.normal (by rfl) ?_); simp (disch := omega) only [push_cast, ↓reduceIte, reduceCtorEq, Nat.reduceAdd, Nat.reduceMul, Nat.reduceLeDiff, Nat.reduceLT, Nat.reduceSub, Int.reduceNe, Int.reduceEq, Int.reduceLE, Int.reduceLT, Int.reduceToNat, Bs.ld, q1, q2, q3, q4, buildE])
   exact ⟨((P2.trans ((FG).trans (FrL.of fE (by simp)) |>.fr (Nat.le_refl _))).trans Fs).cut (fun c hc hlt => by simp at hc; omega), w8, vo8, ve8, ws8, rfl, sb, sw, so, se, hE.ews, sg, fun b hb => by have := (hE.lob b hb).1; omega, fun b hb => by have := (hE.loo b hb).1; omega, fun b hb => by have := (hE.loe b hb).1; omega, fun x hx b hb => by have := hE.lom x hx b hb; omega⟩
 ·rintro n g M1 h; exact h.elim
 intro hp
 (repeat (first | refine st ?_ | refine σl ?_ | (refine σb ?_; simp (disch := omega) only [push_cast, ↓reduceIte, reduceCtorEq, ν1, ν2, ν3, ν4, ν5, ζ1, ζ2, ζ3, ζ4, ζ5, A2.ld, g1, o1, buildE, lsE])))
 refine (pbegin_own q vb M2 (hv.keep P2 (by simp)) (by omega)).mono ?_
 rintro r M3 ⟨f3, p, w, rfl, ow, vo, ve, ws, h3⟩
 have A3 := A2.keep f3 (by simp)
 have B3 := B2.keep f3 (by simp)
 have hpl := h3.lop
 (repeat (first | refine st ?_ | refine σl ?_ | (refine σb ?_; simp (disch := omega) only [push_cast, ↓reduceIte, reduceCtorEq, ν1, ν2, ν3, ν4, ν5, ζ1, ζ2, ζ3, ζ4, ζ5, A3.ld, buildE, lsE])))
 refine (plive_spec q vb M3 hs0).mono ?_
 rintro r M4 ⟨f4, rfl⟩
 have A4 := A3.keep f4 (by simp)
 have B4 := B3.keep f4 (by simp)
 have h4 := h3.keep f4
 have F4 : FrL M2.length M2 M4 := FrL.of (f3.tr f4) (by simp)
 have ow4 := ow.keep f4 (by simp)
 by_cases hr : liveP q
 rotate_left
 ·have e : feedP q bs = stepOf q := by unfold feedP; rw [if_neg hr]
  rw [e, decide_eq_false hr]
  (repeat (first | refine st ?_ | refine σa ?_ | (refine σb ?_; simp (disch := omega) only [push_cast, ↓reduceIte, reduceCtorEq, ν1, ν2, ν3, ν4, ν5, ζ1, ζ2, ζ3, ζ4, ζ5, Bool.not_true, Bool.not_false, lsE])))
  refine (pend_spec _ p _ w vo ve ws M4 h4).mono ?_
  rintro r ME ⟨fE, rfl⟩
  have hE := h4.keep fE
  have BE := B4.keep fE (by simp)
  have q1 := isSl_cl hE.buf.isSl
  have q2 := isSl_one hE.buf.isSl
  have q3 := isSl_cl hE.out.sl.isSl
  have q4 := isSl_cl hE.evs.sl.isSl
  simp only [Value.oneCell'] at q2
  have Fs := Fr.set ME (t + 1) (.box (pvL (stepOf q).p w))
  have Bs := BE.set (.box (pvL (stepOf q).p w))
  have sw : (stepOf q).p.buf ≠ [] → Own (ME.set (t + 1) (.box (pvL (stepOf q).p w))) w 1 (ints .u8 (stepOf q).p.buf) := fun hne => ((ow4).keep fE (by simp)).keep Fs (fun b hb hx => by have := (hE.lob b hb).1; simp at hx; omega)
  have sb := hE.buf.keep Fs (fun b hb hx => by have := (hE.lob b hb).1; simp at hx; omega)
  have so := hE.out.sl.keep Fs (fun b hb hx => by have := (hE.loo b hb).1; simp at hx; omega)
  have se := hE.evs.sl.keep Fs (fun b hb hx => by have := (hE.loe b hb).1; simp at hx; omega)
  have sg : ∀ x ∈ ws, x.good (ME.set (t + 1) (.box (pvL (stepOf q).p w))) := fun x hx => (hE.good x hx).keep Fs (fun b hb hx' => by have := hE.lom x hx b hb; simp at hx'; omega)
  unfold pvL at Fs Bs sw sb so se sg ⊢
  (repeat (first | refine st ?_ | refine σa ?_ | (refine σb ?_; simp (disch := omega) only [push_cast, ↓reduceIte, reduceCtorEq, ν1, ν2, ν3, ν4, ν5, ζ1, ζ2, ζ3, ζ4, ζ5, BE.get, BE.same, q1, q2, q3, q4, List.drop_nil, List.append_nil, Bool.not_true, Bool.not_false, boxE, buildE, lsE])))
  ((first | refine retA.ret (by rfl) ?_ | refine retA.normal (by rfl) ?_); simp (disch := omega) only [push_cast, ↓reduceIte, reduceCtorEq, Nat.reduceAdd, Nat.reduceMul, Nat.reduceLeDiff, Nat.reduceLT, Nat.reduceSub, Int.reduceNe, Int.reduceEq, Int.reduceLE, Int.reduceLT, Int.reduceToNat, Bs.ld, q1, q2, q3, q4, buildE])
  exact ⟨((P2.trans ((F4).trans (FrL.of fE (by simp)) |>.fr (Nat.le_refl _))).trans Fs).cut (fun c hc hlt => by simp at hc; omega), w, vo, ve, ws, rfl, sb, sw, so, se, hE.ews, sg, fun b hb => by have := (hE.lob b hb).1; omega, fun b hb => by have := (hE.loo b hb).1; omega, fun b hb => by have := (hE.loe b hb).1; omega, fun x hx b hb => by have := hE.lom x hx b hb; omega⟩
 rw [decide_eq_true hr]
 have b4 := h4.box
 unfold acL at b4
 dsimp only [stepOf] at b4
 have k1 := isSl_cl h4.out.sl.isSl
 have k2 := isSl_one h4.out.sl.isSl
 have k3 := isSl_cl h4.evs.sl.isSl
 have k4 := isSl_one h4.evs.sl.isSl
 have k5 := isSl_cl h4.buf.isSl
 have k6 := isSl_one h4.buf.isSl
 simp only [Value.oneCell'] at k2 k4 k6
 (repeat (first | refine st ?_ | refine σl ?_ | (refine σb ?_; simp (disch := omega) only [push_cast, ↓reduceIte, reduceCtorEq, ν1, ν2, ν3, ν4, ν5, ζ1, ζ2, ζ3, ζ4, ζ5, b4.ld, k5, h4.buf.isSl, Bool.not_true, Bool.not_false, List.drop_nil, List.append_nil, boxE, buildE, lsE])))
 refine appK.ints (P := Try.prog) (e := 5) (bt := 1) (z := .int .u8 0) (by kernel_rfl) (by kernel_rfl) (by kernel_rfl) (by kernel_rfl) (by decide) ow4 (hx2.keep (f3.tr f4) (by simp)) (by omega) ?_
 intro w' M5 hN hF
 have hwl : ws = [] := List.eq_nil_of_length_eq_zero h4.len
 subst hwl
 obtain ⟨h5, F5⟩ := h4.fed hN hF
 have c5 := isSl_cl hN.1.sl.isSl
 have o5 := isSl_one hN.1.sl.isSl
 simp only [Value.oneCell'] at o5
 have b5 := h4.box.keep hF (fun hx => (h4.lob p hx).2.1 rfl)
 have F6 := F4.trans F5
 unfold acL at b5 h5 F5 F6
 dsimp only [stepOf] at b5 h5 F5 F6
 (repeat (first | refine st ?_ | refine σl ?_ | (refine σb ?_; simp (disch := omega) only [push_cast, ↓reduceIte, reduceCtorEq, ν1, ν2, ν3, ν4, ν5, ζ1, ζ2, ζ3, ζ4, ζ5, b5.get, b5.same, c5, o5, k1, k2, k3, k4, List.drop_nil, List.append_nil, boxE, buildE, lsE])))
 refine AW.label ?_
 refine thenA.normal ?_
 refine hp ((q.buf ++ bs).length + 1) _ _ rfl ?_
 have hl2 : (q.buf ++ bs).length = q.buf.length + bs.length := List.length_append
 refine ⟨_, p, w', vo, ve, [], rfl, rfl, h5, F6, by unfold feedP; rw [if_pos hr]; rfl, Nat.lt_succ_self _, ?_, ?_, hr.2.2, ?_, ?_, ?_⟩
 ·intro x hx
  rcases List.mem_append.1 hx with h | h
  ·exact hb1 x h
  ·exact hb2 x h
 ·show 1 ≤ q.state
  have := hr.2.1
  omega
 ·show 0 + 100 * (q.buf ++ bs).length ≤ 10000000
  omega
 ·show 0 + (q.buf ++ bs).length ≤ 900000
  omega
 ·intro (h1 : q.state = 1)
  have := hr.2.1
  omega
end Go.Proofs.Ytbdejnnbpdgjlaa.Ax
namespace Go.Proofs.Ytbdejnnbpdgjlaa.Ax
open Go Go.RowKit
set_option linter.unusedVariables false
set_option linter.unusedSimpArgs false
set_option maxRecDepth 100000
set_option maxHeartbeats 20000000
section
variable {P : Program} {ops : Array Oper} {todo done : List Nat} {Ls : List (Nat × LP)} {K : List Value → Mem → Prop} {t : List Value} {M : Mem}
variable {i : Nat} {dst : Option Tmp} {type : TypeId} {pos : String} {after : Array Edge}
end
end Go.Proofs.Ytbdejnnbpdgjlaa.Ax
namespace Go.Proofs.Ytbdejnnbpdgjlaa.Ax
open Go Go.RowKit
open Nat renaming reduceAdd → ν1, reduceMul → ν2, reduceLeDiff → ν3, reduceLT → ν4, reduceSub → ν5
open Int renaming reduceNe → ζ1, reduceEq → ζ2, reduceLE → ζ3, reduceLT → ζ4, reduceToNat → ζ5
set_option linter.unusedVariables false
set_option linter.unusedSimpArgs false
set_option maxRecDepth 100000
set_option maxHeartbeats 20000000
attribute [local irreducible] thenA blockA scopeA retA AL AW AD ADL AH clrK CallA apure aload bload appK ptrK fnK ares szOk planOk okOps
def zeroL : List Value := [.int .u32 0, .int .u32 0, .int .i64 0, .int .u32 0, .int .i64 0, .slice none 0 0, .int .i64 0, .int .i64 0, .int .i64 0, .int .u32 0]
theorem pfrom_spec (q : PV) (vb : Value) (M : Mem) (hs : isSl vb = true) : CallA Try.prog 32 [.agg ⟨pvL q vb⟩] M fun r M' => Fr M M' [] ∧ r = .agg ⟨pvL q vb⟩ := by
 have g1 := isSl_cl hs
 have o1 := isSl_one hs
 simp only [Value.oneCell'] at o1
 unfold pvL
 (refine CallA.of_body Try.func32 rfl (by rfl) ?_; simp only [Try.ntmps32, List.length_cons, List.length_nil, List.replicate, List.cons_append, List.nil_append, Nat.reduceSub, Nat.reduceAdd])
 (repeat (first | refine st ?_ | refine σa ?_ | (refine σb ?_; simp (disch := omega) only [push_cast, ↓reduceIte, reduceCtorEq, ν1, ν2, ν3, ν4, ν5, ζ1, ζ2, ζ3, ζ4, ζ5, g1, o1, mem2E, List.drop_nil, List.append_nil, memE, boxE, boxE, buildE, lsE])))
 ((first | refine retA.ret (by rfl) ?_ | refine retA.normal (by rfl) ?_); simp (disch := omega) only [push_cast, ↓reduceIte, reduceCtorEq, Nat.reduceAdd, Nat.reduceMul, Nat.reduceLeDiff, Nat.reduceLT, Nat.reduceSub, Int.reduceNe, Int.reduceEq, Int.reduceLE, Int.reduceLT, Int.reduceToNat, mem2E, g1, o1, memE, boxE, buildE])
 exact Fr.push2 _ _ _
def greatP (q : PV) (bs : List Int) : Prop := q.buf.length > 6000 ∨ bs.length > 6000
instance (q : PV) (bs : List Int) : Decidable (greatP q bs) := by unfold greatP; infer_instance
theorem Sl.ldC {P : Program} {ty : TypeId} {M : Mem} {v u : Value} {s j : Nat} {cs : List Value} (h : Sl M v s cs) (h0 : tsz P ty ≠ some 0) (hb : bload P ty cs j = some u) : aload P ty M (sbk v) (sof v + j) = some u := by
 have agg : ((tsz P ty).bind fun n => if j + n ≤ cs.length then some (Value.agg ⟨(cs.drop j).take n⟩) else none) = some u → ((tsz P ty).bind fun n => (Ax.cellsM M (sbk v) (sof v + j) n).map fun l => Value.agg ⟨l⟩) = some u := by
  intro hb
  cases hz : tsz P ty with
  | none => rw [hz] at hb; cases hb
  | some n =>
   rw [hz] at hb h0
   simp only [Option.bind_some] at hb ⊢
   split at hb
   ·rename_i hle
    rw [h.cellsM (Nat.pos_of_ne_zero fun e => h0 (by rw [e])) hle]
    exact hb
   ·cases hb
 unfold bload at hb
 unfold aload
 split at hb
 ·rename_i e; rw [e]; exact agg hb
 ·rename_i e; rw [e]; exact agg hb
 ·rename_i d h1 h2 e
  split
  ·rename_i e'; rw [e] at e'; exact absurd (Option.some.inj e') (h1 _)
  ·rename_i e'; rw [e] at e'; exact absurd (Option.some.inj e') (h2 _ _)
  ·exact h.cellM hb
  ·rename_i e'; rw [e] at e'; cases e'
 ·cases hb
theorem evsL_cut : ∀ {ws : List EW} {i : Nat} {w : EW}, ws[i]? = some w → ((evsL ws).drop (i * 18)).take 18 = w.cells
 | [], i, w, h => by simp at h
 | x :: ws, 0, w, h => by
  simp at h; subst h; rfl
 | x :: ws, i + 1, w, h => by
  have := evsL_cut (ws := ws) (i := i) (w := w) (by simpa using h)
  rw [← this]
  show ((x.cells ++ evsL ws).drop ((i + 1) * 18)).take 18 = _
  rw [show (i + 1) * 18 = 18 + i * 18 by omega, ← List.drop_drop]
  congr 1
theorem Sl.lnE {M : Mem} {v : Value} {ws : List EW} (h : Sl M v 18 (evsL ws)) : sln v = ws.length := by have := h.len; rw [evsL_length] at this; omega
theorem ev_bload {i : Nat} {ws : List EW} {w : EW} (hi : ws[i]? = some w) {ty : TypeId} {fs : Array Field} (hu : Try.prog.underlying ty = some (.struct fs)) (hz : tsz Try.prog ty = some 18) : bload Try.prog ty (evsL ws) (i * 18) = some (.agg ⟨w.cells⟩) := by
 have hl : i < ws.length := (List.getElem?_eq_some_iff.1 hi).1
 unfold bload
 rw [hu]
 simp only [hz, Option.bind_some]
 rw [if_pos (by rw [evsL_length]; omega), evsL_cut hi]
theorem EW.good.sl {M : Mem} {w : EW} (h : w.good M) : isSl w.g = true ∧ isSl w.a = true ∧ isSl w.c = true ∧ isSl w.n = true ∧ isSl w.d = true := ⟨h.gone.isSl, h.path.isSl, h.comms.isSl, h.new.isSl, h.data.isSl⟩
theorem evcells_one {w : EW} (h : isSl w.g = true ∧ isSl w.a = true ∧ isSl w.c = true ∧ isSl w.n = true ∧ isSl w.d = true) : w.cells.all Value.oneCell' = true := by
 show (Value.oneCell' (.int .i64 w.e.kind) && (mvL w.e.msg w.g w.a w.c w.n w.d).all Value.oneCell') = true
 rw [mvL_one h]; rfl
theorem ev_kind {i : Nat} {ws : List EW} {w : EW} (hi : ws[i]? = some w) : (evsL ws)[i * 18]? = some (.int .i64 w.e.kind) := by
 have h := evsL_cut hi
 have := congrArg (fun l => l[0]?) h
 simp only [List.getElem?_take, List.getElem?_drop] at this
 rw [if_pos (by omega), Nat.add_zero] at this
 exact this
theorem ev_kload {i : Nat} {ws : List EW} {w : EW} {M : Mem} {v : Value} (hv : Sl M v 18 (evsL ws)) (hi : ws[i]? = some w) : aload Try.prog 3 M (sbk v) (sof v + i * 18) = some (.int .i64 w.e.kind) :=
 hv.ldC (by decide) (by unfold bload; rw [show Try.prog.underlying 3 = some (.int .i64) by kernel_rfl]; exact ev_kind hi)
end Go.Proofs.Ytbdejnnbpdgjlaa.Ax
