/- Contracts of functions over the abstract machine. No conditions: lemmas alone. -/
import Derived.Test.YtbdejnnbpdgjlaaPeerXLibD
import Derived.Test.YtbdejnnbpdgjlaaPeerXP0
import Derived.Test.YtbdejnnbpdgjlaaPeerXP29
import Derived.Test.YtbdejnnbpdgjlaaPeerXP28
import Derived.Test.YtbdejnnbpdgjlaaPeerXP13
import Derived.Test.YtbdejnnbpdgjlaaPeerXLibE
namespace Go.Proofs.Ytbdejnnbpdgjlaa.Ax
open Go Go.RowKit
open Nat renaming reduceAdd → ν1, reduceMul → ν2, reduceLeDiff → ν3, reduceLT → ν4, reduceSub → ν5
open Int renaming reduceNe → ζ1, reduceEq → ζ2, reduceLE → ζ3, reduceLT → ζ4, reduceToNat → ζ5
set_option linter.unusedVariables false
set_option linter.unusedSimpArgs false
set_option maxRecDepth 100000
set_option maxHeartbeats 20000000
attribute [local irreducible] thenA blockA scopeA retA AL AW AD ADL AH clrK CallA apure aload bload appK ptrK fnK ares szOk planOk okOps
theorem d27_Ped {g n : Prop} (k : n) (h : n → g := by first | exact AW.dr (id := 7) (by rfl) [0, 1, 7, 2, 3, 4, 5, 6, 8, 9, 10] (by kernel_rfl) (by kernel_rfl)) : g := h k
theorem a27_Ped {g n : Prop} (k : n) (h : n → g := by first | exact AL.mk rfl | exact AL.cp rfl rfl | exact AH.caN (dst := some 55) rfl (by kernel_rfl) | exact AH.mk rfl | exact AH.cpN rfl rfl (by kernel_rfl)) : g := h k
theorem a27s_Ped {g n : Prop} (k : n) (h : n → g := by first | exact AL.mk rfl | exact AL.cp rfl rfl) : g := h k
theorem pvL_ld (P : Program) (ty : TypeId) (p : PV) (vb : Value) (j : Nat) : bload P ty (pvL p vb) j = bload P ty [.int .u32 p.conf.asn, .int .u32 p.conf.id, .int .i64 p.conf.hold, .int .u32 p.conf.peer, .int .i64 p.state, vb, .int .i64 p.hold, .int .i64 p.heard, .int .i64 p.said, .int .u32 p.id] j := rfl
theorem pvL_len (p : PV) (vb : Value) : (pvL p vb).length = 10 := rfl
theorem pvL_one {p : PV} {vb : Value} (h : isSl vb = true) : (pvL p vb).all Value.oneCell' = true := by
 have h1 := isSl_one h
 simp only [Value.oneCell'] at h1
 simp [pvL, Value.oneCell', h1]
structure OutA (M : Mem) (s : ST) (vb vo ve : Value) (ws : List EW) : Prop where
 buf : Sl M vb 1 (ints .u8 s.p.buf)
 out : Sl M vo 1 (ints .u8 s.out)
 evs : Sl M ve 18 (evsL ws)
 ews : ws.map EW.e = s.evs
 good : ∀ w ∈ ws, w.good M
theorem OutA.keep {M M' : Mem} {s : ST} {vb vo ve : Value} {ws : List EW} (h : OutA M s vb vo ve ws) (f : Fr M M' []) : OutA M' s vb vo ve ws :=
 ⟨h.buf.keep f (by simp), h.out.keep f (by simp), h.evs.keep f (by simp), h.ews, fun w hw => (h.good w hw).keep f (by simp)⟩
def outB (w vo ve : Value) (ws : List EW) (b : Nat) : Prop := b ∈ blkOf w ∨ b ∈ blkOf vo ∨ b ∈ blkOf ve ∨ ∃ x ∈ ws, b ∈ x.blk
theorem OutA.keepX {M M' : Mem} {X : List Nat} {s : ST} {vb vo ve : Value} {ws : List EW} (h : OutA M s vb vo ve ws) (f : Fr M M' X) (hx : ∀ b, outB vb vo ve ws b → b ∉ X) : OutA M' s vb vo ve ws :=
 ⟨h.buf.keep f fun b hb => hx b (.inl hb), h.out.keep f fun b hb => hx b (.inr (.inl hb)), h.evs.keep f fun b hb => hx b (.inr (.inr (.inl hb))), h.ews, fun w hw => (h.good w hw).keep f fun b hb => hx b (.inr (.inr (.inr ⟨w, hw, hb⟩)))⟩
theorem OutA.len {M : Mem} {s : ST} {vb vo ve : Value} {ws : List EW} (h : OutA M s vb vo ve ws) : ws.length = s.evs.length := by
 have := congrArg List.length h.ews; rw [List.length_map] at this; exact this
theorem pfeedK {q : PV} {vb vx : Value} {bs : List Int} {M : Mem} {s : ST} {K : Value → Mem → Prop} (hv : Sl M vb 1 (ints .u8 q.buf)) (hx : Sl M vx 1 (ints .u8 bs)) (hb1 : bytesL q.buf) (hb2 : bytesL bs) (hl : q.buf.length + bs.length ≤ 90000) (hs : feedP q bs = s)
  (k : ∀ M' w vo ve ws, Fr M M' [] → OutA M' s w vo ve ws → (∀ b, outB w vo ve ws b → M.length ≤ b) → K (.tuple ⟨[.agg ⟨pvL s.p w⟩, vo, ve]⟩) M') : CallA Try.prog 29 [.agg ⟨pvL q vb⟩, vx] M K :=
 (pfeed_spec q vb vx bs M hv hx hb1 hb2 hl).mono fun r M' ⟨f, w, vo, ve, ws, e, h1, _, h2, h3, h4, h5, l1, l2, l3, l4⟩ => by
  subst hs; rw [e]; exact k M' w vo ve ws f ⟨h1, h2, h3, h4, h5⟩ fun b hb => hb.elim (l1 b) fun hb => hb.elim (l2 b) fun hb => hb.elim (l3 b) fun ⟨x, hx, hb⟩ => l4 x hx b hb
theorem ptickK {q : PV} {vb : Value} {n : Int} {M : Mem} {s : ST} {K : Value → Mem → Prop} (hv : Sl M vb 1 (ints .u8 q.buf)) (hl : q.buf.length ≤ 1000000) (hq : -9223372036854775808 ≤ q.hold ∧ q.hold ≤ 9223372036854775807) (hs : tickP q n = s)
  (k : ∀ M' w vo ve ws, Fr M M' [] → OutA M' s w vo ve ws → (∀ b, outB w vo ve ws b → M.length ≤ b) → K (.tuple ⟨[.agg ⟨pvL s.p w⟩, vo, ve]⟩) M') : CallA Try.prog 37 [.agg ⟨pvL q vb⟩, .int .i64 n] M K :=
 (ptick_spec q vb n M hv hl hq).mono fun r M' ⟨f, w, vo, ve, ws, e, h1, h2, h3, h4, h5, l1, l2, l3, l4⟩ => by
  subst hs; rw [e]; exact k M' w vo ve ws f ⟨h1, h2, h3, h4, h5⟩ fun b hb => hb.elim (l1 b) fun hb => hb.elim (l2 b) fun hb => hb.elim (l3 b) fun ⟨x, hx, hb⟩ => l4 x hx b hb
theorem pstopK {q : PV} {vb : Value} {c d : Int} {M : Mem} {s : ST} {K : Value → Mem → Prop} (hv : Sl M vb 1 (ints .u8 q.buf)) (hl : q.buf.length ≤ 1000000) (hs : stopP q c d = s)
  (k : ∀ M' w vo ve ws, Fr M M' [] → OutA M' s w vo ve ws → (∀ b, outB w vo ve ws b → M.length ≤ b) → K (.tuple ⟨[.agg ⟨pvL s.p w⟩, vo, ve]⟩) M') : CallA Try.prog 38 [.agg ⟨pvL q vb⟩, .int .i64 c, .int .i64 d] M K :=
 (pstop_spec q vb c d M hv hl).mono fun r M' ⟨f, w, vo, ve, ws, e, h1, h2, h3, h4, h5, l1, l2, l3, l4⟩ => by
  subst hs; rw [e]; exact k M' w vo ve ws f ⟨h1, h2, h3, h4, h5⟩ fun b hb => hb.elim (l1 b) fun hb => hb.elim (l2 b) fun hb => hb.elim (l3 b) fun ⟨x, hx, hb⟩ => l4 x hx b hb
theorem pstartK {q : PV} {vb : Value} {M : Mem} {s : ST} {K : Value → Mem → Prop} (hv : Sl M vb 1 (ints .u8 q.buf)) (hl : q.buf.length ≤ 1000000) (u1 : u32 q.conf.asn) (u2 : u32 q.conf.id) (hs : startP q = s)
  (k : ∀ M' w vo, Fr M M' [] → Sl M' w 1 (ints .u8 s.p.buf) → Sl M' vo 1 (ints .u8 s.out) → (∀ b ∈ blkOf w, M.length ≤ b) → (∀ b ∈ blkOf vo, M.length ≤ b) → K (.tuple ⟨[.agg ⟨pvL s.p w⟩, vo]⟩) M') : CallA Try.prog 36 [.agg ⟨pvL q vb⟩] M K :=
 (pstart_spec q vb M hv hl u1 u2).mono fun r M' ⟨f, w, vo, e, h1, h2, l1, l2⟩ => by
  subst hs; rw [e]; exact k M' w vo f h1 h2 l1 l2
theorem evs1 {ws : List EW} {k : Int} (h : ws.map EW.e = [⟨k, MV.zero⟩]) : ws.length = 1 ∧ ∃ w, ws[0]? = some w ∧ w.e.kind = k := by
 cases ws with
 | nil => cases h
 | cons w ws =>
  cases ws with
  | nil => rw [List.map_cons, List.map_nil] at h; obtain ⟨h, _⟩ := List.cons.inj h; exact ⟨rfl, w, rfl, by rw [h]⟩
  | cons x xs => simp at h
def cA : CF := ⟨1, 1, 90, 2⟩
def qA0 : PV := freshP cA 2
def openA : List Int := [255, 255, 255, 255, 255, 255, 255, 255, 255, 255, 255, 255, 255, 255, 255, 255, 0, 37, 1, 4, 0, 2, 0, 90, 0, 0, 0, 2, 8, 2, 6, 65, 4, 0, 0, 0, 2]
def saidA : List Int := [255, 255, 255, 255, 255, 255, 255, 255, 255, 255, 255, 255, 255, 255, 255, 255, 0, 37, 1, 4, 0, 1, 0, 90, 0, 0, 0, 1, 8, 2, 6, 65, 4, 0, 0, 0, 1]
def aliveA : List Int := [255, 255, 255, 255, 255, 255, 255, 255, 255, 255, 255, 255, 255, 255, 255, 255, 0, 19, 4]
def badA : List Int := [255, 255, 255, 255, 255, 255, 255, 255, 255, 255, 255, 255, 255, 255, 255, 255, 0, 21, 3, 1, 1]
def mA : MV := openM ⟨2, 2, 90, 2⟩
theorem putA1 : putM mA = (openA, 0) := by kernel_rfl
theorem putA2 : putM aliveM = (aliveA, 0) := by kernel_rfl
theorem newA : newP cA = (freshP cA 1, 0) := by kernel_rfl
theorem startA : startP (freshP cA 1) = ⟨qA0, saidA, []⟩ := by kernel_rfl
def qA1 : PV := { freshP cA 3 with hold := 90, id := 2 }
def qA2 : PV := { freshP cA 4 with hold := 90, id := 2 }
theorem feedA1 : feedP qA0 openA = ⟨qA1, aliveA, []⟩ := by kernel_rfl
theorem feedA2 : feedP qA1 aliveA = ⟨qA2, [], [⟨1, MV.zero⟩]⟩ := by kernel_rfl
theorem feedA3 : feedP qA2 (List.replicate 19 0) = ⟨freshP cA 1, badA, [⟨3, MV.zero⟩]⟩ := by kernel_rfl
theorem openA_b : bytesL openA := by unfold bytesL openA; simp
theorem aliveA_b : bytesL aliveA := by unfold bytesL aliveA; simp
theorem alive27_spec (M : Mem) : CallA Try.prog 27 [] M fun r M' => Fr M M' [] ∧ r = .bool true := by
 (refine CallA.of_body Try.func27 rfl (by rfl) ?_; simp only [Try.ntmps27, List.length_cons, List.length_nil, List.replicate, List.cons_append, List.nil_append, Nat.reduceSub, Nat.reduceAdd])
 (repeat (first | refine st ?_ | refine σa ?_ | refine d27_Ped ?_ | ((first | refine a27_Ped ?_ | refine σb ?_ | refine σc ?_); simp (disch := omega) only [push_cast, ↓reduceIte, reduceCtorEq, ν1, ν2, ν3, ν4, ν5, ζ1, ζ2, ζ3, ζ4, ζ5, buildE, lsE])))
 refine (pnew_spec cA M).mono ?_
 rintro r M1 ⟨f1, rfl⟩
 rw [newA]
 have n1 : (pvL (freshP cA 1) (.slice none 0 0)).all Value.oneCell' = true := pvL_one rfl
 (repeat (first | refine st ?_ | refine σa ?_ | refine d27_Ped ?_ | ((first | refine a27_Ped ?_ | refine σb ?_ | refine σc ?_); simp (disch := omega) only [push_cast, ↓reduceIte, reduceCtorEq, ν1, ν2, ν3, ν4, ν5, ζ1, ζ2, ζ3, ζ4, ζ5, pvL_len, pvL_ld, n1, mem2E, List.drop_nil, List.append_nil, memE, boxE, boxE, buildE, lsE])))
 have F1 := f1.tr (Fr.push M1 (.box (pvL (freshP cA 1) (.slice none 0 0))))
 generalize M1 ++ [Blk.box (pvL (freshP cA 1) (.slice none 0 0))] = N1 at *
 refine pstartK (q := freshP cA 1) (vb := .slice none 0 0) (Sl.nil _ (by omega)) (by show 0 ≤ 1000000; omega) ⟨by decide, by decide⟩ ⟨by decide, by decide⟩ startA fun M2 w2 vo2 f2 hw2 ho2 _ _ => ?_
 have n2 : (pvL qA0 w2).all Value.oneCell' = true := pvL_one hw2.isSl
 have s2 := ho2.isSl
 have l2 := ho2.lnI
 (repeat (first | refine st ?_ | refine σa ?_ | refine d27_Ped ?_ | ((first | refine a27_Ped ?_ | refine σb ?_ | refine σc ?_); simp (disch := omega) only [push_cast, ↓reduceIte, reduceCtorEq, ν1, ν2, ν3, ν4, ν5, ζ1, ζ2, ζ3, ζ4, ζ5, pvL_len, pvL_ld, n2, mem2E, List.drop_nil, List.append_nil, memE, boxE, boxE, buildE, lsE])))
 have P2 := Fr.push M2 (.box (pvL qA0 w2))
 have A2 := At.push M2 (.box (pvL qA0 w2))
 have F2 := (F1.tr f2).tr P2
 have hw2' := hw2.keep P2 (by simp)
 have ho2' := ho2.keep P2 (by simp)
 generalize M2 ++ [Blk.box (pvL qA0 w2)] = N2 at *
 refine mputK (m := mA) (g := .slice none 0 0) (a := .slice none 0 0) (c := .slice none 0 0) (nw := .slice none 0 0) (d := .slice none 0 0) (MVin.nils _ ⟨rfl, rfl, rfl, rfl, rfl⟩) (good_open ⟨by decide, by decide⟩ ⟨by decide, by decide⟩) (size_open _) putA1 fun M3 w3 f3 n3 => ?_
 (repeat (first | refine st ?_ | refine σa ?_ | refine d27_Ped ?_ | ((first | refine a27_Ped ?_ | refine σb ?_ | refine σc ?_); simp (disch := omega) only [push_cast, ↓reduceIte, reduceCtorEq, ν1, ν2, ν3, ν4, ν5, ζ1, ζ2, ζ3, ζ4, ζ5, buildE, lsE])))
 refine mputK (m := aliveM) (g := .slice none 0 0) (a := .slice none 0 0) (c := .slice none 0 0) (nw := .slice none 0 0) (d := .slice none 0 0) (MVin.nils _ ⟨rfl, rfl, rfl, rfl, rfl⟩) good_alive size_alive putA2 fun M4 w4 f4 n4 => ?_
 have A4 := (A2.keep f3 (by simp)).keep f4 (by simp)
 have F4 := (F2.tr f3).tr f4
 (repeat (first | refine st ?_ | refine σa ?_ | refine d27_Ped ?_ | ((first | refine a27_Ped ?_ | refine σb ?_ | refine σc ?_); simp (disch := omega) only [push_cast, ↓reduceIte, reduceCtorEq, ν1, ν2, ν3, ν4, ν5, ζ1, ζ2, ζ3, ζ4, ζ5, A4.ld, pvL_ld, buildE, lsE])))
 refine pfeedK (q := qA0) (vb := w2) (bs := openA) ((hw2'.keep f3 (by simp)).keep f4 (by simp)) (n3.1.sl.keep f4 (by simp)) (fun x hx => by cases hx) openA_b (by show 0 + 37 ≤ 90000; omega) feedA1 fun M5 w5 vo5 ve5 ws5 f5 h5 _ => ?_
 have n5 : (pvL qA1 w5).all Value.oneCell' = true := pvL_one h5.buf.isSl
 have s5 := h5.out.isSl
 have t5 := h5.evs.isSl
 (repeat (first | refine st ?_ | refine σa ?_ | refine d27_Ped ?_ | ((first | refine a27_Ped ?_ | refine σb ?_ | refine σc ?_); simp (disch := omega) only [push_cast, ↓reduceIte, reduceCtorEq, ν1, ν2, ν3, ν4, ν5, ζ1, ζ2, ζ3, ζ4, ζ5, pvL_len, pvL_ld, n5, mem2E, List.drop_nil, List.append_nil, memE, boxE, boxE, buildE, lsE])))
 have P5 := Fr.push M5 (.box (pvL qA1 w5))
 have A5 := At.push M5 (.box (pvL qA1 w5))
 have F5 := (F4.tr f5).tr P5
 have h5' := h5.keep P5
 generalize M5 ++ [Blk.box (pvL qA1 w5)] = N5 at *
 refine pfeedK (q := qA1) (vb := w5) (bs := aliveA) h5'.buf ((n4.1.sl.keep f5 (by simp)).keep P5 (by simp)) (fun x hx => by cases hx) aliveA_b (by show 0 + 19 ≤ 90000; omega) feedA2 fun M6 w6 vo6 ve6 ws6 f6 h6 _ => ?_
 have n6 : (pvL qA2 w6).all Value.oneCell' = true := pvL_one h6.buf.isSl
 have s6 := h6.out.isSl
 have t6 := h6.evs.isSl
 (repeat (first | refine st ?_ | refine σa ?_ | ((first | refine a27s_Ped ?_ | refine σb ?_); simp (disch := omega) only [push_cast, ↓reduceIte, reduceCtorEq, ν1, ν2, ν3, ν4, ν5, ζ1, ζ2, ζ3, ζ4, ζ5, pvL_len, pvL_ld, n6, mem2E, List.drop_nil, List.append_nil, memE, boxE, boxE, buildE, lsE])))
 have P6 := Fr.push M6 (.box (pvL qA2 w6))
 have A6 := At.push M6 (.box (pvL qA2 w6))
 have F6 := (F5.tr f6).tr P6
 have h6' := h6.keep P6
 generalize M6 ++ [Blk.box (pvL qA2 w6)] = N6 at *
 (repeat (first | refine st ?_ | refine σa ?_ | refine d27_Ped ?_ | ((first | refine a27_Ped ?_ | refine σb ?_ | refine σc ?_); simp (disch := omega) only [push_cast, ↓reduceIte, reduceCtorEq, ν1, ν2, ν3, ν4, ν5, ζ1, ζ2, ζ3, ζ4, ζ5, A6.ld, pvL_ld, buildE, lsE])))
 refine mkK.ints (P := Try.prog) (e := 5) (bt := 1) (k := .u8) (by kernel_rfl) (by kernel_rfl) (by kernel_rfl) (by kernel_rfl) (l := 19) (n := 19) (by omega) (by omega) (by omega) ?_
 have R7 := Fr.push N6 (.row true 1 (ints .u8 (List.replicate 19 0)))
 have r7 := New.row N6 (s := 1) (n := 19) (cs := ints .u8 (List.replicate 19 0)) (by omega) rfl rfl (by decide)
 (repeat (first | refine st ?_ | refine σa ?_ | refine d27_Ped ?_ | ((first | refine a27_Ped ?_ | refine σb ?_ | refine σc ?_); simp (disch := omega) only [push_cast, ↓reduceIte, reduceCtorEq, ν1, ν2, ν3, ν4, ν5, ζ1, ζ2, ζ3, ζ4, ζ5, lsE])))
 generalize N6 ++ [Blk.row true 1 (ints .u8 (List.replicate 19 0))] = N7 at *
 have Z7 := Fr.push N7 (.box zeroL)
 have B7 := At.push N7 (.box zeroL)
 unfold zeroL at Z7 B7
 generalize N7 ++ [Blk.box [.int .u32 0, .int .u32 0, .int .i64 0, .int .u32 0, .int .i64 0, .slice none 0 0, .int .i64 0, .int .i64 0, .int .i64 0, .int .u32 0]] = N8 at *
 have f68 := R7.tr Z7
 refine pfeedK (q := qA2) (vb := w6) (bs := List.replicate 19 0) (h6'.keep f68).buf (r7.1.sl.keep Z7 (by simp)) (fun x hx => by cases hx) (fun x hx => by rw [List.eq_of_mem_replicate hx]; omega) (by show 0 + 19 ≤ 90000; omega) feedA3 fun M8 w8 vo8 ve8 ws8 f8 h8 k8 => ?_
 have n8 : (pvL (freshP cA 1) w8).all Value.oneCell' = true := pvL_one h8.buf.isSl
 have B8 := B7.keep f8 (by simp)
 have P9 := Fr.set M8 N7.length (.box (pvL (freshP cA 1) w8))
 have B9 := B8.set (.box (pvL (freshP cA 1) w8))
 have hN7 : N6.length ≤ N7.length := R7.1
 have f69 : Fr N6 (M8.set N7.length (.box (pvL (freshP cA 1) w8))) [] := ((f68.tr f8).trans P9).cut (fun c hc hlt => by simp at hc; omega)
 have F9 := F6.tr f69
 have A9 := A6.keep f69 (by simp)
 have h59 := (h5'.keep f6).keep (P6.tr f69)
 have h69 := h6'.keep f69
 have w49 := (((n4.1.sl.keep f5 (by simp)).keep P5 (by simp)).keep f6 (by simp)).keep (P6.tr f69) (by simp)
 have l9 : ((sln vo2 : Nat) : Int) = 37 := by have := ho2.lnI; have e : saidA.length = 37 := rfl; simp only at this; omega
 have hw5 : ws5.length = 0 := h59.len
 have e5 : ((sln ve5 : Nat) : Int) = 0 := by have := h59.evs.lnE; omega
 obtain ⟨y6, w60, hw60, hk60⟩ := evs1 h69.ews
 have e6 : ((sln ve6 : Nat) : Int) = 1 := by have := h69.evs.lnE; omega
 have ld6 := ev_kload h69.evs hw60
 rw [hk60] at ld6
 have s8 := h8.out.isSl
 have l8 : ((sln vo8 : Nat) : Int) = 21 := by have := h8.out.lnI; have e : badA.length = 21 := rfl; simp only at this; omega
 have t8 := h8.evs.isSl
 (repeat (first | refine st ?_ | refine σa ?_ | refine d27_Ped ?_ | ((first | refine a27_Ped ?_ | refine σb ?_ | refine σc ?_); simp (disch := omega) only [push_cast, ↓reduceIte, reduceCtorEq, ν1, ν2, ν3, ν4, ν5, ζ1, ζ2, ζ3, ζ4, ζ5, pvL_len, pvL_ld, n8, B8.get, B8.same, List.drop_nil, List.append_nil, s2, l9, s5, boxE, buildE, lsE])))
 refine (bytes_spec vo5 w4 aliveA aliveA _ h59.out w49 (by show 19 ≤ 1000000000; omega)).mono ?_
 rintro r MB ⟨rfl, rfl⟩
 have dA : decide (aliveA = aliveA) = true := decide_eq_true rfl
 have h89 : OutA (M8.set N7.length (.box (pvL (freshP cA 1) w8))) ⟨freshP cA 1, badA, [⟨3, MV.zero⟩]⟩ w8 vo8 ve8 ws8 := h8.keepX P9 (fun b hb hx => by have := k8 b hb; have := B7.lt; simp at hx; omega)
 have d4 : decide (qA2.state = 4) = true := by kernel_rfl
 have d1 : decide ((freshP cA 1).state = 1) = true := by kernel_rfl
 obtain ⟨y8, w80, hw80, hk80⟩ := evs1 h89.ews
 have e8 : ((sln ve8 : Nat) : Int) = 1 := by have := h89.evs.lnE; omega
 have ld8 := ev_kload h89.evs hw80
 rw [hk80] at ld8
 simp only [Nat.zero_mul, Nat.add_zero] at ld6 ld8
 (repeat (first | refine st ?_ | refine σa ?_ | refine d27_Ped ?_ | ((first | refine a27_Ped ?_ | refine σb ?_ | refine σc ?_); simp (disch := omega) only [push_cast, ↓reduceIte, reduceCtorEq, ν1, ν2, ν3, ν4, ν5, ζ1, ζ2, ζ3, ζ4, ζ5, dA, t5, e5, t6, e6, ld6, s8, l8, t8, e8, ld8, A9.ld, B9.ld, pvL_ld, d4, d1, lsE])))
 ((first | refine retA.ret (by rfl) ?_ | refine retA.normal (by rfl) ?_); simp (disch := omega) only [push_cast, ↓reduceIte, reduceCtorEq, Nat.reduceAdd, Nat.reduceMul, Nat.reduceLeDiff, Nat.reduceLT, Nat.reduceSub, Int.reduceNe, Int.reduceEq, Int.reduceLE, Int.reduceLT, Int.reduceToNat])
 exact F9
end Go.Proofs.Ytbdejnnbpdgjlaa.Ax
namespace Go.Proofs.Ytbdejnnbpdgjlaa.Ax
open Go Go.RowKit
set_option linter.unusedVariables false
set_option linter.unusedSimpArgs false
set_option maxRecDepth 100000
set_option maxHeartbeats 20000000
def KInt (k : IntKind) (M : Mem) (acs : List Value) : Prop := ∃ n, (Lit.int k n).wf = true ∧ acs = [.int k n]
def KBool (M : Mem) (acs : List Value) : Prop := ∃ b, acs = [.bool b]
def KSl (k : IntKind) (M : Mem) (acs : List Value) : Prop := ∃ v xs, acs = [v] ∧ (∀ x ∈ xs, (Lit.int k x).wf = true) ∧ xs.length ≤ maxLen ∧ Sl M v 1 (ints k xs)
def Keeps (K : Mem → List Value → Prop) : Prop := ∀ M Y acs, K M acs → K (M ++ Y) acs
def KAll : List (Mem → List Value → Prop) → Mem → List Value → Prop
 | [], _, acs => acs = []
 | K :: Ks, M, acs => ∃ a b, acs = a ++ b ∧ K M a ∧ KAll Ks M b
theorem KInt.keeps (k : IntKind) : Keeps (KInt k) := fun _ _ _ h => h
theorem KBool.keeps : Keeps KBool := fun _ _ _ h => h
theorem KSl.keeps (k : IntKind) : Keeps (KSl k) := fun M Y acs ⟨v, xs, h1, h2, h3, h4⟩ => ⟨v, xs, h1, h2, h3, h4.app Y⟩
def KeepsAll : List (Mem → List Value → Prop) → Prop
 | [] => True
 | K :: Ks => Keeps K ∧ KeepsAll Ks
theorem KAll.keeps : ∀ {Ks : List (Mem → List Value → Prop)}, KeepsAll Ks → Keeps (KAll Ks)
 | [], _ => fun _ _ _ h => h
 | K :: Ks, ⟨h1, h2⟩ => fun M Y acs ⟨a, b, e, k1, k2⟩ => ⟨a, b, e, h1 M Y a k1, KAll.keeps h2 M Y b k2⟩
section
variable {P : Program} {W : World} {t e : TypeId}
theorem rd_int {k : IntKind} (ht : P.underlying t = some (.int k)) : Reads P W t (KInt k) := by
 intro H en base held n cs x hx ι N0 M hN hm
 obtain ⟨ι', X, acs, h1, h2, h3, y, h4, h5⟩ := (flat_int (W := W) ht).reads (fun y => by rfl) H en base held n cs x hx ι N0 M hN hm
 exact ⟨ι', X, acs, h1, h2, h3, y, h4, h5⟩
theorem flatMap_ints (k : IntKind) (xs : List Int) : xs.flatMap (fun n => [Value.int k n]) = ints k xs := by
 induction xs with
 | nil => rfl
 | cons x xs ih => rw [List.flatMap_cons, ih]; rfl
theorem rd_sl {k : IntKind} (ht : P.underlying t = some (.slice e)) (he : P.cellsOf e = 1) (hu : P.underlying e = some (.int k)) : Reads P W t (KSl k) := by
 intro H en base held n cs x hx ι N0 M hN hm
 obtain ⟨ι', X, acs, h1, h2, h3, v, xs, h4, h5, h6, h7⟩ := reads_slice ht he (by omega) (flat_int (W := W) hu) (fun y => by rfl) (fun y => by rfl) (fun y => by rfl) H en base held n cs x hx ι N0 M hN hm
 rw [flatMap_ints] at h7
 exact ⟨ι', X, acs, h1, h2, h3, v, xs, h4, h5, h6, h7⟩
theorem wf_u8 {x : Int} (h : (Lit.int .u8 x).wf = true) : 0 ≤ x ∧ x ≤ 255 := by simp [Lit.wf, IntKind.min, IntKind.max, IntKind.signed, IntKind.bits] at h; omega
theorem wf_u32 {x : Int} (h : (Lit.int .u32 x).wf = true) : 0 ≤ x ∧ x ≤ 4294967295 := by simp [Lit.wf, IntKind.min, IntKind.max, IntKind.signed, IntKind.bits] at h; omega
theorem wf_i64 {x : Int} (h : (Lit.int .i64 x).wf = true) : -9223372036854775808 ≤ x ∧ x ≤ 9223372036854775807 := by simp [Lit.wf, IntKind.min, IntKind.max, IntKind.signed, IntKind.bits] at h; omega
def RAll (P : Program) (W : World) : List Field → List (Mem → List Value → Prop) → Prop
 | [], [] => True
 | f :: l, K :: Ks => Reads P W f.type K ∧ Keeps K ∧ RAll P W l Ks
 | _, _ => False
def offsB (P : Program) : Nat → List Field → Nat → Bool
 | o, [], n => o == n
 | o, f :: l, n => f.offset == o && offsB P (o + P.cellsOf f.type) l n
theorem rd_fields {H : Type} {en : TypeId × Value → H} {base : Nat} {held : Bool} {m : Nat} {cs : List Value} : ∀ (l : List Field) (Ks : List (Mem → List Value → Prop)) (o : Nat), RAll P W l Ks → offsB P o l cs.length = true →
  (∀ f ∈ l, ∃ x, DataW.trod en P W base (fun _ => true) held m f.type ((cs.drop f.offset).take (P.cellsOf f.type)) = some x) →
  ∀ ι (N0 : Base) M, N0.n = W.heap.size → MRel ι N0 M W → ∃ ι' X acs, (∀ b l, ι b = some l → ι' b = some l) ∧ MRel ι' N0 (M ++ X) W ∧ LRel ι' acs (cs.drop o) ∧ KAll Ks (M ++ X) acs ∧ KeepsAll Ks
 | [], [], o, _, ho, _, ι, N0, M, hN, hm => by
  have ho' : o = cs.length := by simpa [offsB] using ho
  exact ⟨ι, [], [], fun _ _ h => h, by simpa using hm, by rw [ho', List.drop_length]; exact .nil, rfl, trivial⟩
 | f :: l, K :: Ks, o, ⟨h1, h2, h3⟩, ho, hx, ι, N0, M, hN, hm => by
  simp only [offsB, Bool.and_eq_true, beq_iff_eq] at ho
  obtain ⟨x, hx0⟩ := hx f (by simp)
  obtain ⟨ι1, X1, a1, i1, m1, r1, k1⟩ := h1 H en base held m _ x hx0 ι N0 M hN hm
  obtain ⟨ι2, X2, a2, i2, m2, r2, k2, kk⟩ := rd_fields l Ks _ h3 ho.2 (fun g hg => hx g (List.mem_cons_of_mem _ hg)) ι1 N0 (M ++ X1) hN m1
  refine ⟨ι2, X1 ++ X2, a1 ++ a2, fun b l h => i2 b l (i1 b l h), by rw [← List.append_assoc]; exact m2, ?_, ⟨a1, a2, rfl, ?_, ?_⟩, h2, kk⟩
  ·rw [show cs.drop o = (cs.drop f.offset).take (P.cellsOf f.type) ++ cs.drop (o + P.cellsOf f.type) by rw [ho.1, ← List.drop_drop, List.take_append_drop]]
   exact (r1.mono i2).append r2
  ·rw [← List.append_assoc]; exact h2 _ _ _ k1
  ·rw [← List.append_assoc]; exact k2
 | [], _ :: _, _, h, _, _, _, _, _, _, _ => h.elim
 | _ :: _, [], _, h, _, _, _, _, _, _, _ => h.elim
theorem rd_struct {fs : Array Field} {Ks : List (Mem → List Value → Prop)} (ht : P.underlying t = some (.struct fs)) (hs : offsB P 0 fs.toList (P.cellsOf t) = true) (hr : RAll P W fs.toList Ks) : Reads P W t (KAll Ks) := by
 intro H en base held n cs x hx ι N0 M hN hm
 obtain ⟨xs, m, _, _, hlen, hxl, hf⟩ := DataW.trod_struct ht hx
 obtain ⟨ι', X, acs, h1, h2, h3, h4, _⟩ := rd_fields (en := en) (base := base) (held := held) (m := m) (cs := cs) fs.toList Ks 0 hr (by rw [hlen]; exact hs) (fun f hf' => by
  obtain ⟨i, hi, e⟩ := List.mem_iff_getElem.1 hf'
  have hg : fs[i]? = some f := by rw [← Array.getElem?_toList, List.getElem?_eq_getElem hi, e]
  have hi' : i < xs.length := by rw [hxl]; simpa using hi
  exact ⟨xs[i], by rw [hf i f hg, List.getElem?_eq_getElem hi']⟩) ι N0 M hN hm
 exact ⟨ι', X, acs, h1, h2, by simpa using h3, h4⟩
end
def zipI : List IntKind → List Int → List Value
 | [], _ => []
 | k :: ks, ns => .int k (ns.headD 0) :: zipI ks ns.tail
def goodI : List IntKind → List Int → Prop
 | [], ns => ns = []
 | k :: ks, ns => (Lit.int k (ns.headD 0)).wf = true ∧ ns ≠ [] ∧ goodI ks ns.tail
theorem zipI_append : ∀ (ks ls : List IntKind) (ns ms : List Int), goodI ks ns → zipI (ks ++ ls) (ns ++ ms) = zipI ks ns ++ zipI ls ms
 | [], ls, ns, ms, h => by cases h; rfl
 | k :: ks, ls, ns, ms, ⟨_, hne, h⟩ => by
  cases ns with
  | nil => exact absurd rfl hne
  | cons n ns => simp only [List.cons_append, zipI, List.headD_cons, List.tail_cons, zipI_append ks ls ns ms h]
theorem goodI_append : ∀ {ks ls : List IntKind} {ns ms : List Int}, goodI ks ns → goodI ls ms → goodI (ks ++ ls) (ns ++ ms)
 | [], ls, ns, ms, h, h' => by cases h; exact h'
 | k :: ks, ls, ns, ms, ⟨hw, hne, h⟩, h' => by
  cases ns with
  | nil => exact absurd rfl hne
  | cons n ns => exact ⟨hw, by simp, goodI_append h h'⟩
def FK (P : Program) (W : World) (t : TypeId) (ks : List IntKind) : Prop := FlatR P W t (zipI ks) (goodI ks)
section
variable {P : Program} {W : World} {t e : TypeId}
theorem FK.int {k : IntKind} (ht : P.underlying t = some (.int k)) : FK P W t [k] := by
 intro H en base spare held n cs x h
 obtain ⟨m, rfl, _, hw⟩ := DataW.trod_int ht h
 exact ⟨[m], ⟨hw, by simp, rfl⟩, rfl⟩
def FKs (P : Program) (W : World) : List Field → List (List IntKind) → Prop
 | [], [] => True
 | f :: l, k :: ks => FK P W f.type k ∧ FKs P W l ks
 | _, _ => False
theorem fk_fields {H : Type} {en : TypeId × Value → H} {base : Nat} {spare : Nat → Bool} {held : Bool} {m : Nat} {cs : List Value} : ∀ (l : List Field) (ks : List (List IntKind)) (o : Nat), FKs P W l ks → offsB P o l cs.length = true →
  (∀ f ∈ l, ∃ x, DataW.trod en P W base spare held m f.type ((cs.drop f.offset).take (P.cellsOf f.type)) = some x) →
  ∃ ns, goodI ks.flatten ns ∧ cs.drop o = zipI ks.flatten ns
 | [], [], o, _, ho, _ => by
  have ho' : o = cs.length := by simpa [offsB] using ho
  exact ⟨[], rfl, by rw [ho', List.drop_length]; rfl⟩
 | f :: l, k :: ks, o, ⟨h1, h3⟩, ho, hx => by
  simp only [offsB, Bool.and_eq_true, beq_iff_eq] at ho
  obtain ⟨x, hx0⟩ := hx f (by simp)
  obtain ⟨n1, g1, e1⟩ := h1 H en base spare held m _ x hx0
  obtain ⟨n2, g2, e2⟩ := fk_fields l ks _ h3 ho.2 (fun g hg => hx g (List.mem_cons_of_mem _ hg))
  refine ⟨n1 ++ n2, by rw [List.flatten_cons]; exact goodI_append g1 g2, ?_⟩
  rw [List.flatten_cons, zipI_append _ _ _ _ g1, ← e1, ← e2, ho.1, ← List.drop_drop, List.take_append_drop]
 | [], _ :: _, _, h, _, _ => h.elim
 | _ :: _, [], _, h, _, _ => h.elim
theorem FK.struct {fs : Array Field} {ks : List (List IntKind)} (ht : P.underlying t = some (.struct fs)) (hs : offsB P 0 fs.toList (P.cellsOf t) = true) (hr : FKs P W fs.toList ks) : FK P W t ks.flatten := by
 intro H en base spare held n cs x hx
 obtain ⟨xs, m, _, _, hlen, hxl, hf⟩ := DataW.trod_struct ht hx
 obtain ⟨ns, h1, h2⟩ := fk_fields (en := en) (base := base) (spare := spare) (held := held) (m := m) (cs := cs) fs.toList ks 0 hr (by rw [hlen]; exact hs) (fun f hf' => by
  obtain ⟨i, hi, e⟩ := List.mem_iff_getElem.1 hf'
  have hg : fs[i]? = some f := by rw [← Array.getElem?_toList, List.getElem?_eq_getElem hi, e]
  have hi' : i < xs.length := by rw [hxl]; simpa using hi
  exact ⟨xs[i], by rw [hf i f hg, List.getElem?_eq_getElem hi']⟩)
 exact ⟨ns, h1, by simpa using h2⟩
def KSs (ks : List IntKind) (M : Mem) (acs : List Value) : Prop := ∃ (v : Value) (xs : List (List Int)), acs = [v] ∧ (∀ x ∈ xs, goodI ks x) ∧ xs.length ≤ maxLen ∧ Sl M v ks.length (xs.flatMap (zipI ks))
theorem KSs.keeps (ks : List IntKind) : Keeps (KSs ks) := fun M Y acs ⟨v, xs, h1, h2, h3, h4⟩ => ⟨v, xs, h1, h2, h3, h4.app Y⟩
end
def Cells (K : Mem → List Value → Prop) (sz : Nat) : Prop := ∀ M acs, K M acs → acs.all Value.oneCell' = true ∧ acs.length = sz
theorem KInt.cells (k : IntKind) : Cells (KInt k) 1 := fun M acs ⟨n, _, e⟩ => by subst e; exact ⟨rfl, rfl⟩
theorem KBool.cells : Cells KBool 1 := fun M acs ⟨n, e⟩ => by subst e; exact ⟨rfl, rfl⟩
theorem sl_cells {v : Value} (h : isSl v = true) : [v].all Value.oneCell' = true := by
 have := isSl_one h
 simp only [List.all_cons, List.all_nil, Bool.and_true]
 exact this
theorem KSl.cells (k : IntKind) : Cells (KSl k) 1 := fun M acs ⟨v, xs, e, _, _, h⟩ => by subst e; exact ⟨sl_cells h.isSl, rfl⟩
theorem KEl.cells (K : Mem → List Value → Prop) (sz : Nat) : Cells (KEl K sz) 1 := fun M acs ⟨v, L, e, _, _, h⟩ => by subst e; exact ⟨sl_cells h.isSl, rfl⟩
theorem KEl.keeps {K : Mem → List Value → Prop} {sz : Nat} (hk : Keeps K) : Keeps (KEl K sz) := fun M Y acs ⟨v, L, e, h1, h2, h3⟩ => ⟨v, L, e, fun c hc => hk _ _ _ (h1 c hc), h2, h3.app Y⟩
theorem KAll.cells_nil : Cells (KAll []) 0 := fun M acs e => by cases e; exact ⟨rfl, rfl⟩
theorem KAll.cells_cons {K : Mem → List Value → Prop} {Ks : List (Mem → List Value → Prop)} {a b : Nat} (h1 : Cells K a) (h2 : Cells (KAll Ks) b) : Cells (KAll (K :: Ks)) (a + b) := fun M acs ⟨x, y, e, k1, k2⟩ => by
 subst e
 obtain ⟨g1, g2⟩ := h1 M x k1
 obtain ⟨g3, g4⟩ := h2 M y k2
 exact ⟨by rw [List.all_append, g1, g3]; rfl, by rw [List.length_append, g2, g4]⟩
end Go.Proofs.Ytbdejnnbpdgjlaa.Ax
namespace Go.Proofs.Ytbdejnnbpdgjlaa.Ax
open Go Go.RowKit
set_option linter.unusedVariables false
set_option linter.unusedSimpArgs false
set_option maxRecDepth 100000
theorem keeps70 : KeepsAll [(KInt .u32), (KInt .u32), (KInt .i64), (KInt .u32)] := ⟨(KInt.keeps _), (KInt.keeps _), (KInt.keeps _), (KInt.keeps _), trivial⟩
theorem rd70 (W : World) : Reads Try.prog W 70 (KAll [(KInt .u32), (KInt .u32), (KInt .i64), (KInt .u32)]) := rd_struct Try.underlying70 (by kernel_rfl) ⟨(rd_int (by kernel_rfl)), (KInt.keeps _), (rd_int (by kernel_rfl)), (KInt.keeps _), (rd_int (by kernel_rfl)), (KInt.keeps _), (rd_int (by kernel_rfl)), (KInt.keeps _), trivial⟩
theorem keeps98 : KeepsAll [(KInt .i64), (KInt .i64), (KInt .i64), (KInt .i64), (KSl .u8)] := ⟨(KInt.keeps _), (KInt.keeps _), (KInt.keeps _), (KInt.keeps _), (KSl.keeps _), trivial⟩
theorem rd98 (W : World) : Reads Try.prog W 98 (KAll [(KInt .i64), (KInt .i64), (KInt .i64), (KInt .i64), (KSl .u8)]) := rd_struct Try.underlying98 (by kernel_rfl) ⟨(rd_int (by kernel_rfl)), (KInt.keeps _), (rd_int (by kernel_rfl)), (KInt.keeps _), (rd_int (by kernel_rfl)), (KInt.keeps _), (rd_int (by kernel_rfl)), (KInt.keeps _), (rd_sl (e := 5) (k := .u8) (by kernel_rfl) (by kernel_rfl) (by kernel_rfl)), (KSl.keeps _), trivial⟩
def In70 (M : Mem) (v : Value) : Prop := ∃ acs, v = .agg ⟨acs⟩ ∧ (KAll [(KInt .u32), (KInt .u32), (KInt .i64), (KInt .u32)]) M acs
def In5 (M : Mem) (v : Value) : Prop := (KInt .u8) M [v]
def In96 (M : Mem) (v : Value) : Prop := (KEl (KAll [(KInt .i64), (KInt .i64), (KInt .i64), (KInt .i64), (KSl .u8)]) 5) M [v]
end Go.Proofs.Ytbdejnnbpdgjlaa.Ax
