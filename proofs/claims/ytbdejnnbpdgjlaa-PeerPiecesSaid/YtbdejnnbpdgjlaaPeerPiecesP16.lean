/- Contracts of functions over the abstract machine. No conditions: lemmas alone. -/
import Derived.Test.YtbdejnnbpdgjlaaPeerPiecesLibD
import Derived.Test.YtbdejnnbpdgjlaaPeerPiecesP0
import Derived.Test.YtbdejnnbpdgjlaaPeerPiecesP13
import Derived.Test.YtbdejnnbpdgjlaaPeerPiecesP15
import Derived.Test.YtbdejnnbpdgjlaaPeerPiecesP11
import Derived.Test.YtbdejnnbpdgjlaaPeerPiecesP14
import Derived.Test.YtbdejnnbpdgjlaaPeerPiecesP10
namespace Go.Proofs.Ytbdejnnbpdgjlaa.Ax
open Go Go.RowKit
open Nat renaming reduceAdd → ν1, reduceMul → ν2, reduceLeDiff → ν3, reduceLT → ν4, reduceSub → ν5
open Int renaming reduceNe → ζ1, reduceEq → ζ2, reduceLE → ζ3, reduceLT → ζ4, reduceToNat → ζ5
set_option linter.unusedVariables false
set_option linter.unusedSimpArgs false
set_option maxRecDepth 100000
set_option maxHeartbeats 20000000
attribute [local irreducible] thenA blockA scopeA retA AL AW AD ADL AH clrK CallA apure aload bload appK ptrK fnK ares szOk planOk okOps
def mvL (m : MV) (gone path comms new data : Value) : List Value := [.int .i64 m.kind, .int .u32 m.asn, .int .u32 m.id, .int .i64 m.hold, gone, .int .i64 m.attrs.origin, path, .int .u32 m.attrs.hop, .int .u32 m.attrs.med, .int .u32 m.attrs.pref, .bool m.attrs.hasMed, .bool m.attrs.hasPref, comms, new, .int .i64 m.code, .int .i64 m.sub, data]
theorem mvL_ld (P : Program) (ty : TypeId) (m : MV) (gone path comms new data : Value) (j : Nat) : bload P ty (mvL m gone path comms new data) j = bload P ty [.int .i64 m.kind, .int .u32 m.asn, .int .u32 m.id, .int .i64 m.hold, gone, .int .i64 m.attrs.origin, path, .int .u32 m.attrs.hop, .int .u32 m.attrs.med, .int .u32 m.attrs.pref, .bool m.attrs.hasMed, .bool m.attrs.hasPref, comms, new, .int .i64 m.code, .int .i64 m.sub, data] j := rfl
theorem shortP_rng {n : Int} (h : u32 n) : 0 ≤ shortP n ∧ shortP n ≤ 65535 := by
 have := h.1
 unfold shortP; split <;> omega
theorem WrS.at {M M' : Mem} {p : Nat} {v : Value} {bs : List Int} {b : Nat} {B : Blk} (h : WrS M p v bs M') (hb : At M b B) (h1 : b ≠ p) (h2 : b ∉ blkOf v) : At M' b B := hb.keep h.1 (by simp [h1, h2])
theorem wopen_spec (p : Nat) (v : Value) (bs : List Int) (m : MV) (g a c nw d : Value) (M : Mem) (h : WrA M p v bs) (hk : m.kind = 1) (hr : rightM m) (hg : goodM m) (hl : bs.length ≤ 1000) :
  CallA Try.prog 65 [.pointer (some ⟨p, 0, none⟩), .agg ⟨mvL m g a c nw d⟩] M fun r M' => r = .tuple ⟨[]⟩ ∧ WrS M p v (bs ++ bodyB m) M' := by
 unfold rightM at hr
 rw [if_pos hk] at hr
 have hh : 0 ≤ m.hold ∧ m.hold ≤ 65535 := by omega
 have hh1 := hh.1
 have hh2 := hh.2
 have wh : m.hold % 65536 = m.hold := by omega
 have ha := hg.1
 have hi := hg.2.1
 have hpM := h.at'.lt
 have hvM := h.own.sl.blks
 (refine CallA.of_body Try.func65 rfl (by rfl) ?_; simp only [Try.ntmps65, List.length_cons, List.length_nil, List.replicate, List.cons_append, List.nil_append, Nat.reduceSub, Nat.reduceAdd])
 (repeat (first | refine st ?_ | refine σa ?_ | (refine σb ?_; simp (disch := omega) only [push_cast, ↓reduceIte, reduceCtorEq, ν1, ν2, ν3, ν4, ν5, ζ1, ζ2, ζ3, ζ4, ζ5, buildE, memE, boxE])))
 have P0 := Fr.push M (.box (mvL m g a c nw d))
 have B0 := At.push M (.box (mvL m g a c nw d))
 generalize hM0 : M ++ [Blk.box (mvL m g a c nw d)] = M0 at *
 have hlen0 : M0.length = M.length + 1 := by rw [← hM0]; simp
 have P1 := Fr.push M0 (.row true 1 [.int .u8 4])
 have r1 := New.row M0 (s := 1) (n := 1) (cs := ints .u8 [4]) (by omega) rfl rfl (by decide)
 refine (woct_spec p v bs _ [4] _ ((h.keep P0 (by simp)).keep P1 (by simp)) r1.sl (by simp; omega)).mono ?_
 rintro r M1 ⟨rfl, W1⟩
 have B1 := W1.at (B0.keep P1 (by simp)) (by omega) (fun hc => by have := hvM _ hc; omega)
 obtain ⟨F1, v1, A1, N1⟩ := W1.pre P1
 have hb1 := A1.at'.lt
 unfold mvL at B0 B1
 have s1 := shortP_rng ha
 (repeat (first | refine st ?_ | refine σa ?_ | (refine σb ?_; simp (disch := omega) only [push_cast, ↓reduceIte, reduceCtorEq, ν1, ν2, ν3, ν4, ν5, ζ1, ζ2, ζ3, ζ4, ζ5, B1.ld, buildE])))
 refine (short_spec m.asn _ ha).mono ?_
 rintro r M1' ⟨rfl, rfl⟩
 (repeat (first | refine st ?_ | refine σa ?_ | (refine σb ?_; simp (disch := omega) only [push_cast, ↓reduceIte, reduceCtorEq, ν1, ν2, ν3, ν4, ν5, ζ1, ζ2, ζ3, ζ4, ζ5])))
 refine (wtwo_spec p v1 _ (shortP m.asn) _ A1 s1 (by simp; omega)).mono ?_
 rintro r M2 ⟨rfl, W2⟩
 have B2 := W2.at B1 (by omega) (fun hc => by have := N1.blk _ hc; omega)
 have T2 := WrS.tr F1 N1 W2
 obtain ⟨F2, v2, A2, N2⟩ := T2
 have wu : IntKind.u16.wrap m.hold = m.hold := by rw [wm_u16, wh]
 (repeat (first | refine st ?_ | refine σa ?_ | (refine σb ?_; simp (disch := omega) only [push_cast, ↓reduceIte, reduceCtorEq, ν1, ν2, ν3, ν4, ν5, ζ1, ζ2, ζ3, ζ4, ζ5, B2.ld, wu, buildE])))
 refine (wtwo_spec p v2 _ m.hold _ A2 hh (by simp [twoB]; omega)).mono ?_
 rintro r M3 ⟨rfl, W3⟩
 have B3 := W3.at B2 (by omega) (fun hc => by have := N2.blk _ hc; omega)
 obtain ⟨F3, v3, A3, N3⟩ := WrS.tr F2 N2 W3
 (repeat (first | refine st ?_ | refine σa ?_ | (refine σb ?_; simp (disch := omega) only [push_cast, ↓reduceIte, reduceCtorEq, ν1, ν2, ν3, ν4, ν5, ζ1, ζ2, ζ3, ζ4, ζ5, B3.ld, buildE])))
 refine (wfour_spec p v3 _ m.id _ A3 hi (by simp [twoB]; omega)).mono ?_
 rintro r M4 ⟨rfl, W4⟩
 have B4 := W4.at B3 (by omega) (fun hc => by have := N3.blk _ hc; omega)
 obtain ⟨F4, v4, A4, N4⟩ := WrS.tr F3 N3 W4
 (repeat (first | refine st ?_ | refine σa ?_ | (refine σb ?_; simp (disch := omega) only [push_cast, ↓reduceIte, reduceCtorEq, ν1, ν2, ν3, ν4, ν5, ζ1, ζ2, ζ3, ζ4, ζ5, buildE, memE, boxE])))
 have P5 := Fr.push M4 (.row true 1 [.int .u8 8, .int .u8 2, .int .u8 6, .int .u8 65, .int .u8 4])
 have r5 := New.row M4 (s := 1) (n := 5) (cs := ints .u8 [8, 2, 6, 65, 4]) (by omega) rfl rfl (by decide)
 refine (woct_spec p v4 _ _ [8, 2, 6, 65, 4] _ (A4.keep P5 (by simp)) r5.sl (by simp [twoB, addrBytes]; omega)).mono ?_
 rintro r M5 ⟨rfl, W5⟩
 have W5' := W5.pre P5
 have B5 := W5'.at B4 (by omega) (fun hc => by have := N4.blk _ hc; omega)
 obtain ⟨F5, v5, A5, N5⟩ := WrS.tr F4 N4 W5'
 (repeat (first | refine st ?_ | refine σa ?_ | (refine σb ?_; simp (disch := omega) only [push_cast, ↓reduceIte, reduceCtorEq, ν1, ν2, ν3, ν4, ν5, ζ1, ζ2, ζ3, ζ4, ζ5, B5.ld, buildE])))
 refine (wfour_spec p v5 _ m.asn _ A5 ha (by simp [twoB, addrBytes]; omega)).mono ?_
 rintro r M6 ⟨rfl, W6⟩
 have T6 := (WrS.tr F5 N5 W6).pre P0
 (repeat (first | refine st ?_ | refine σa ?_ | (refine σb ?_; simp (disch := omega) only [push_cast, ↓reduceIte, reduceCtorEq, ν1, ν2, ν3, ν4, ν5, ζ1, ζ2, ζ3, ζ4, ζ5])))
 ((first | refine retA.ret (by rfl) ?_ | refine retA.normal (by rfl) ?_); simp (disch := omega) only [push_cast, ↓reduceIte, reduceCtorEq, Nat.reduceAdd, Nat.reduceMul, Nat.reduceLeDiff, Nat.reduceLT, Nat.reduceSub, Int.reduceNe, Int.reduceEq, Int.reduceLE, Int.reduceLT, Int.reduceToNat])
 have e : bodyB m = [4] ++ twoB (shortP m.asn) ++ twoB m.hold ++ addrBytes m.id ++ [8, 2, 6, 65, 4] ++ addrBytes m.asn := by unfold bodyB; rw [if_pos hk]; rfl
 rw [e]
 simp only [List.append_assoc] at T6 ⊢
 exact T6
structure WSt (M : Mem) (s : Nat) (B : Blk) (w : Value) (out : List Int) (M' : Mem) : Prop where
 lt : M.length < s
 fr : Fr M M' []
 bx : At M' M.length B
 wr : At M' s (.box [w])
 own : Own M' w 1 (ints .u8 out)
 blk : ∀ b ∈ blkOf w, s < b
theorem WSt.keep {M M' M2 : Mem} {s : Nat} {B : Blk} {w : Value} {out : List Int} (h : WSt M s B w out M') (f : Fr M' M2 []) : WSt M s B w out M2 :=
 ⟨h.lt, h.fr.tr f, h.bx.keep f (by simp), h.wr.keep f (by simp), h.own.keep f (by simp), h.blk⟩
theorem WSt.sep {M M' : Mem} {s : Nat} {B : Blk} {w v : Value} {out : List Int} (h : WSt M s B w out M') (hv : ∀ b ∈ blkOf v, M'.length ≤ b) : ∀ b ∈ blkOf v, b ≠ s ∧ b ∉ blkOf w := fun b hb => by
 have h1 := hv b hb
 have h2 := h.wr.lt
 refine ⟨by omega, fun h3 => ?_⟩
 have := h.own.sl.blks b h3
 omega
theorem wputK {M M' : Mem} {s : Nat} {B : Blk} {w v : Value} {out ys : List Int} {k fl : Int} {K : Value → Mem → Prop} (h : WSt M s B w out M') (hv : Sl M' v 1 (ints .u8 ys)) (hsv : ∀ b ∈ blkOf v, b ≠ s ∧ b ∉ blkOf w) (hl : ys.length ≤ 65535) (ho : out.length ≤ 1000000) (hf : flagsP k = fl) (hk : fl = 64 ∨ fl = 128 ∨ fl = 192)
  (hK : ∀ r w' M3, WSt M s B w' (out ++ oneP fl k ys) M3 → K r M3) : CallA Try.prog 131 [.pointer (some ⟨s, 0, none⟩), .int .u8 k, v] M' K := by
 have hlt := h.lt
 refine (wput_spec s M.length w out k v ys M' h.wr h.own (fun e => by have := h.blk s e; omega) ⟨by omega, fun b hb => by have := h.blk b hb; omega⟩ h.fr.1 hv hsv hl ho (by rw [hf]; exact hk)).mono ?_
 rintro r M3 ⟨w', h1, h2, h3, h4⟩
 rw [hf] at h2
 have hM := h.fr.1
 have h5 : Fr M M3 [] := (h.fr.trans h4).cut (by
  intro x hx hlt
  rcases List.mem_append.1 hx with hx | hx
  ·cases hx
  ·rcases List.mem_cons.1 hx with rfl | hx
   ·omega
   ·have := h.blk x hx; omega)
 have hsl := h.wr.lt
 exact hK r w' M3 ⟨h.lt, h5, h.bx.keep h4 (by
  intro hx
  rcases List.mem_cons.1 hx with e | hx
  ·omega
  ·have := h.blk _ hx; omega), h1, h2, fun b hb => by have := h3 b hb; omega⟩
theorem nums1K {M : Mem} {x : Int} {K : Value → Mem → Prop} (hx : u32 x) (h : ∀ r M', New M M' r 1 (ints .u8 (foursL [x])) → Fr M M' [] → K r M') : CallA Try.prog 132 [.slice (some ⟨M.length, 0, none⟩) 1 1] (M ++ [.row true 1 [.int .u32 x]]) K := by
 have hrow := New.row M (s := 1) (n := 1) (cs := ints .u32 [x]) (by omega) rfl rfl (by decide)
 refine (anums_spec _ [x] _ hrow.sl (fun y hy => by rcases List.mem_singleton.1 hy with rfl; exact hx) (by simp)).mono ?_
 rintro r M' ⟨hN, hF⟩
 exact h r M' (hN.after (Fr.push M _)) ((Fr.push M _).tr hF)
theorem oneP_len (fl k : Int) (v : List Int) : (oneP fl k v).length ≤ 4 + v.length := by unfold oneP; split <;> simp <;> omega
theorem put_spec (a : AV) (p c : Value) (M : Mem) (hp : Sl M p 1 (ints .u32 a.path)) (hc : Sl M c 1 (ints .u32 a.comms)) (hg : goodAV a) (h1 : a.path.length ≤ 1000000) (h2 : a.comms.length ≤ 1000000) : CallA Try.prog 104 [.agg ⟨avL a p c⟩] M fun r M' => Fr M M' [] ∧
  ((rightP a ∧ ∃ w, r = .tuple ⟨[w, .int .i64 0]⟩ ∧ New M M' w 1 (ints .u8 (putP a))) ∨ (¬ rightP a ∧ r = .tuple ⟨[.slice none 0 0, .int .i64 4]⟩)) := by
 obtain ⟨g1, g2, g3, g4, g5⟩ := hg
 have fb := Fr.push M (.box (avL a p c))
 have bx := At.push M (.box (avL a p c))
 have op := isSl_one hp.isSl
 have oc := isSl_one hc.isSl
 simp only [Value.oneCell'] at op oc
 unfold avL at *
 (refine CallA.of_body Try.func104 rfl (by rfl) ?_; simp only [Try.ntmps104, List.length_cons, List.length_nil, List.replicate, List.cons_append, List.nil_append, Nat.reduceSub, Nat.reduceAdd])
 (repeat (first | refine st ?_ | refine σa ?_ | (refine σb ?_; simp (disch := omega) only [push_cast, ↓reduceIte, reduceCtorEq, ν1, ν2, ν3, ν4, ν5, ζ1, ζ2, ζ3, ζ4, ζ5, buildE, memE, boxE])))
 refine (right_spec a p c _ (hp.keep fb (by simp)) (hc.keep fb (by simp)) (by omega) (by omega)).mono ?_
 rintro r M1 ⟨hF1, rfl⟩
 have hF := fb.tr hF1
 have bx1 := bx.keep hF1 (by simp)
 by_cases hr : rightP a
 rotate_left
 ·have d : decide (rightP a) = false := decide_eq_false hr
  rw [d]
  (repeat (first | refine st ?_ | refine σa ?_ | (refine σb ?_; simp (disch := omega) only [push_cast, ↓reduceIte, reduceCtorEq, ν1, ν2, ν3, ν4, ν5, ζ1, ζ2, ζ3, ζ4, ζ5, Bool.not_false])))
  ((first | refine retA.ret (by rfl) ?_ | refine retA.normal (by rfl) ?_); simp (disch := omega) only [push_cast, ↓reduceIte, reduceCtorEq, Nat.reduceAdd, Nat.reduceMul, Nat.reduceLeDiff, Nat.reduceLT, Nat.reduceSub, Int.reduceNe, Int.reduceEq, Int.reduceLE, Int.reduceLT, Int.reduceToNat])
  exact ⟨hF, .inr hr⟩
 have d : decide (rightP a) = true := decide_eq_true hr
 rw [d]
 have r5 := hr.2.2.2.2.1
 have r6 := hr.2.2.2.2.2.1
 have wu : IntKind.u8.wrap a.origin = a.origin := w_u8 (by omega) (by omega)
 have hM1 : M.length < M1.length := bx1.lt
 have W0 : WSt M M1.length (.box [.int .i64 a.origin, p, .int .u32 a.hop, .int .u32 a.med, .int .u32 a.pref, .bool a.hasMed, .bool a.hasPref, c]) (.slice none 0 0) [] (M1 ++ [.box [.slice none 0 0]]) :=
  ⟨hM1, hF.tr (Fr.push M1 _), bx1.keep (Fr.push M1 _) (by simp), At.push M1 _, Own.nil _ (by omega), fun b hb => by cases hb⟩
 have hpl := hr.2.1
 have hcl := hr.2.2.1
 have n1 := oneP_len 64 1 [a.origin]
 have n2 := oneP_len 64 2 (pathB a.path)
 have n2b := pathB_length a.path
 have n3 := oneP_len 64 3 (foursL [a.hop])
 have n4 := oneP_len 128 4 (foursL [a.med])
 have n5 := oneP_len 64 5 (foursL [a.pref])
 have n8 := oneP_len 192 8 (foursL a.comms)
 rw [foursL_length] at n3 n4 n5 n8
 simp only [List.length_cons, List.length_nil] at n1 n3 n4 n5
 (repeat (first | refine st ?_ | refine σa ?_ | (refine σb ?_; simp (disch := omega) only [push_cast, ↓reduceIte, reduceCtorEq, ν1, ν2, ν3, ν4, ν5, ζ1, ζ2, ζ3, ζ4, ζ5, W0.bx.ld, wu, Bool.not_true])))
 refine wputK (W0.keep (Fr.push _ _)) (New.lit _ 1 [a.origin] rfl (by decide)).sl (W0.sep (New.lit _ 1 [a.origin] rfl (by decide)).blk) (by simp) (by simp) (fl := 64) rfl (.inl rfl) ?_
 intro r w1 M3 W1
 rw [List.nil_append] at W1
 have hp3 := hp.keep W1.fr (by simp)
 have hsp := hp.isSl
 have hnp := hp.lnI
 (repeat (first | refine st ?_ | refine σa ?_ | (refine σb ?_; simp (disch := omega) only [push_cast, ↓reduceIte, reduceCtorEq, ν1, ν2, ν3, ν4, ν5, ζ1, ζ2, ζ3, ζ4, ζ5, W1.bx.ld, hsp, hnp])))
 clear W0 bx1 bx hF1 hF fb
 refine AW.joinF [5, 23, 24, 25, 26, 27, 28, 29] (fun g M' => WSt M M1.length (.box [.int .i64 a.origin, p, .int .u32 a.hop, .int .u32 a.med, .int .u32 a.pref, .bool a.hasMed, .bool a.hasPref, c]) w1 (oneP 64 1 [a.origin]) M' ∧ Sl M' (g 5) 1 (ints .u8 (pathB a.path)) ∧ ∀ b ∈ blkOf (g 5), b ≠ M1.length ∧ b ∉ blkOf w1) ?_ ?_
 ·by_cases cp : a.path = []
  ·have d : decide ((a.path.length : Int) > 0) = false := by rw [cp]; rfl
   (repeat (first | refine st ?_ | refine σa ?_ | (refine σb ?_; simp (disch := omega) only [push_cast, ↓reduceIte, reduceCtorEq, ν1, ν2, ν3, ν4, ν5, ζ1, ζ2, ζ3, ζ4, ζ5, d])))
   refine ⟨rfl, W1, ?_, fun b hb => by cases hb⟩
   rw [cp]
   exact Sl.nil _ (by omega)
  ·have d : decide ((a.path.length : Int) > 0) = true := decide_eq_true (by have := List.length_pos_iff.2 cp; omega)
   have wn : IntKind.u8.wrap (a.path.length : Int) = a.path.length := w_u8 (by omega) (by omega)
   have W2 := W1.keep (Fr.push M3 (.row true 1 [.int .u8 2, .int .u8 (a.path.length : Int)]))
   (repeat (first | refine st ?_ | refine σa ?_ | (refine σb ?_; simp (disch := omega) only [push_cast, ↓reduceIte, reduceCtorEq, ν1, ν2, ν3, ν4, ν5, ζ1, ζ2, ζ3, ζ4, ζ5, d, wn, W2.bx.ld])))
   have r0 := New.lit M3 2 [2, (a.path.length : Int)] rfl (by decide)
   refine (anums_spec p a.path _ (hp3.keep (Fr.push M3 (.row true 1 (ints .u8 [2, (a.path.length : Int)]))) (by simp)) g1 h1).mono ?_
   rintro r M4 ⟨hN4, hF4⟩
   (repeat (first | refine st ?_ | refine σa ?_ | (refine σb ?_; simp (disch := omega) only [push_cast, ↓reduceIte, reduceCtorEq, ν1, ν2, ν3, ν4, ν5, ζ1, ζ2, ζ3, ζ4, ζ5])))
   have fl4 := foursL_length a.path
   refine appK.ints (P := Try.prog) (e := 5) (bt := 1) (z := .int .u8 0) (by kernel_rfl) (by kernel_rfl) (by kernel_rfl) (by kernel_rfl) (by decide) (r0.1.keep hF4 (by simp)) hN4.sl (by simp; omega) ?_
   intro v5 M5 hN5 hF5
   (repeat (first | refine st ?_ | refine σa ?_ | (refine σb ?_; simp (disch := omega) only [push_cast, ↓reduceIte, reduceCtorEq, ν1, ν2, ν3, ν4, ν5, ζ1, ζ2, ζ3, ζ4, ζ5])))
   have F35 : Fr M3 M5 [] := ((Fr.push M3 _).tr hF4).new (r0.keep hF4 (by simp)) hF5
   have N5 : New M3 M5 v5 1 (ints .u8 ([2, (a.path.length : Int)] ++ foursL a.path)) := hN5.after ((Fr.push M3 _).tr hF4)
   have e : pathB a.path = [2, (a.path.length : Int)] ++ foursL a.path := by unfold pathB; rw [if_neg cp]; rfl
   rw [e]
   exact ⟨rfl, W1.keep F35, N5.sl, W1.sep N5.blk⟩
 rintro g M4 ⟨W2, hseg, hsep⟩
 (repeat (first | refine st ?_ | refine σa ?_ | (refine σb ?_; simp (disch := omega) only [push_cast, ↓reduceIte, reduceCtorEq, ν1, ν2, ν3, ν4, ν5, ζ1, ζ2, ζ3, ζ4, ζ5])))
 refine wputK W2 hseg hsep (by omega) (by omega) (fl := 64) rfl (.inl rfl) ?_
 intro r w2 M5 W3
 (repeat (first | refine st ?_ | refine σa ?_ | (refine σb ?_; simp (disch := omega) only [push_cast, ↓reduceIte, reduceCtorEq, ν1, ν2, ν3, ν4, ν5, ζ1, ζ2, ζ3, ζ4, ζ5, W3.bx.ld])))
 refine nums1K g2 ?_
 intro r M6 hN6 hF6
 (repeat (first | refine st ?_ | refine σa ?_ | (refine σb ?_; simp (disch := omega) only [push_cast, ↓reduceIte, reduceCtorEq, ν1, ν2, ν3, ν4, ν5, ζ1, ζ2, ζ3, ζ4, ζ5])))
 refine wputK (W3.keep hF6) hN6.sl (W3.sep hN6.blk) (by rw [foursL_length]; simp) (by rw [List.length_append]; omega) (fl := 64) rfl (.inl rfl) ?_
 intro r w3 M7 W4
 (repeat (first | refine st ?_ | refine σa ?_ | (refine σb ?_; simp (disch := omega) only [push_cast, ↓reduceIte, reduceCtorEq, ν1, ν2, ν3, ν4, ν5, ζ1, ζ2, ζ3, ζ4, ζ5, W4.bx.ld])))
 refine AW.joinF [41, 42, 43, 44, 45, 46] (fun g M' => ∃ w', WSt M M1.length (.box [.int .i64 a.origin, p, .int .u32 a.hop, .int .u32 a.med, .int .u32 a.pref, .bool a.hasMed, .bool a.hasPref, c]) w' (oneP 64 1 [a.origin] ++ oneP 64 2 (pathB a.path) ++ oneP 64 3 (foursL [a.hop]) ++ (if a.hasMed = true then oneP 128 4 (foursL [a.med]) else [])) M') ?_ ?_
 ·cases hm : a.hasMed with
  | false =>
   rw [hm] at W4
   (repeat (first | refine st ?_ | refine σa ?_ | (refine σb ?_; simp (disch := omega) only [push_cast, ↓reduceIte, reduceCtorEq, ν1, ν2, ν3, ν4, ν5, ζ1, ζ2, ζ3, ζ4, ζ5])))
   exact ⟨(over_self _ _).symm, w3, by simpa using W4⟩
  | true =>
   rw [hm] at W4
   (repeat (first | refine st ?_ | refine σa ?_ | (refine σb ?_; simp (disch := omega) only [push_cast, ↓reduceIte, reduceCtorEq, ν1, ν2, ν3, ν4, ν5, ζ1, ζ2, ζ3, ζ4, ζ5, W4.bx.ld])))
   refine nums1K g3 ?_
   intro r M6 hN6 hF6
   (repeat (first | refine st ?_ | refine σa ?_ | (refine σb ?_; simp (disch := omega) only [push_cast, ↓reduceIte, reduceCtorEq, ν1, ν2, ν3, ν4, ν5, ζ1, ζ2, ζ3, ζ4, ζ5])))
   refine wputK (W4.keep hF6) hN6.sl (W4.sep hN6.blk) (by rw [foursL_length]; simp) (by simp only [List.length_append]; omega) (fl := 128) rfl (.inr (.inl rfl)) ?_
   intro r w4 M7 W5
   (repeat (first | refine st ?_ | refine σa ?_ | (refine σb ?_; simp (disch := omega) only [push_cast, ↓reduceIte, reduceCtorEq, ν1, ν2, ν3, ν4, ν5, ζ1, ζ2, ζ3, ζ4, ζ5])))
   exact ⟨rfl, w4, by simpa using W5⟩
 rintro g2 M8 ⟨w4, W5⟩
 have n4' : (if a.hasMed = true then oneP 128 4 (foursL [a.med]) else []).length ≤ 8 := by split; omega; simp
 generalize hout : oneP 64 1 [a.origin] ++ oneP 64 2 (pathB a.path) ++ oneP 64 3 (foursL [a.hop]) ++ (if a.hasMed = true then oneP 128 4 (foursL [a.med]) else []) = out4 at *
 have nout : out4.length ≤ 2000 := by rw [← hout]; simp only [List.length_append]; omega
 (repeat (first | refine st ?_ | refine σa ?_ | (refine σb ?_; simp (disch := omega) only [push_cast, ↓reduceIte, reduceCtorEq, ν1, ν2, ν3, ν4, ν5, ζ1, ζ2, ζ3, ζ4, ζ5, W5.bx.ld])))
 refine AW.joinF [49, 50, 51, 52, 53, 54] (fun g M' => ∃ w', WSt M M1.length (.box [.int .i64 a.origin, p, .int .u32 a.hop, .int .u32 a.med, .int .u32 a.pref, .bool a.hasMed, .bool a.hasPref, c]) w' (out4 ++ (if a.hasPref = true then oneP 64 5 (foursL [a.pref]) else [])) M') ?_ ?_
 ·cases hm : a.hasPref with
  | false =>
   rw [hm] at W5
   (repeat (first | refine st ?_ | refine σa ?_ | (refine σb ?_; simp (disch := omega) only [push_cast, ↓reduceIte, reduceCtorEq, ν1, ν2, ν3, ν4, ν5, ζ1, ζ2, ζ3, ζ4, ζ5])))
   exact ⟨(over_self _ _).symm, w4, by simpa using W5⟩
  | true =>
   rw [hm] at W5
   (repeat (first | refine st ?_ | refine σa ?_ | (refine σb ?_; simp (disch := omega) only [push_cast, ↓reduceIte, reduceCtorEq, ν1, ν2, ν3, ν4, ν5, ζ1, ζ2, ζ3, ζ4, ζ5, W5.bx.ld])))
   refine nums1K g4 ?_
   intro r M6 hN6 hF6
   (repeat (first | refine st ?_ | refine σa ?_ | (refine σb ?_; simp (disch := omega) only [push_cast, ↓reduceIte, reduceCtorEq, ν1, ν2, ν3, ν4, ν5, ζ1, ζ2, ζ3, ζ4, ζ5])))
   refine wputK (W5.keep hF6) hN6.sl (W5.sep hN6.blk) (by rw [foursL_length]; simp) (by omega) (fl := 64) rfl (.inl rfl) ?_
   intro r w4 M7 W6
   (repeat (first | refine st ?_ | refine σa ?_ | (refine σb ?_; simp (disch := omega) only [push_cast, ↓reduceIte, reduceCtorEq, ν1, ν2, ν3, ν4, ν5, ζ1, ζ2, ζ3, ζ4, ζ5])))
   exact ⟨rfl, w4, by simpa using W6⟩
 rintro g3 M9 ⟨w5, W6⟩
 have n5' : (if a.hasPref = true then oneP 64 5 (foursL [a.pref]) else []).length ≤ 8 := by split; omega; simp
 have hsc := hc.isSl
 have hnc := hc.lnI
 (repeat (first | refine st ?_ | refine σa ?_ | (refine σb ?_; simp (disch := omega) only [push_cast, ↓reduceIte, reduceCtorEq, ν1, ν2, ν3, ν4, ν5, ζ1, ζ2, ζ3, ζ4, ζ5, W6.bx.ld, hsc, hnc])))
 refine AW.joinF [59, 60, 61, 62, 63] (fun g M' => ∃ w', WSt M M1.length (.box [.int .i64 a.origin, p, .int .u32 a.hop, .int .u32 a.med, .int .u32 a.pref, .bool a.hasMed, .bool a.hasPref, c]) w' (putP a) M') ?_ ?_
 ·by_cases cc : a.comms = []
  ·have d : decide ((a.comms.length : Int) > 0) = false := by rw [cc]; rfl
   (repeat (first | refine st ?_ | refine σa ?_ | (refine σb ?_; simp (disch := omega) only [push_cast, ↓reduceIte, reduceCtorEq, ν1, ν2, ν3, ν4, ν5, ζ1, ζ2, ζ3, ζ4, ζ5, d])))
   have e : putP a = out4 ++ (if a.hasPref = true then oneP 64 5 (foursL [a.pref]) else []) := by unfold putP; rw [hout, cc]; simp
   rw [e]
   exact ⟨(over_self _ _).symm, w5, W6⟩
  ·have d : decide ((a.comms.length : Int) > 0) = true := decide_eq_true (by have := List.length_pos_iff.2 cc; omega)
   (repeat (first | refine st ?_ | refine σa ?_ | (refine σb ?_; simp (disch := omega) only [push_cast, ↓reduceIte, reduceCtorEq, ν1, ν2, ν3, ν4, ν5, ζ1, ζ2, ζ3, ζ4, ζ5, d, W6.bx.ld])))
   refine (anums_spec c a.comms _ (hc.keep W6.fr (by simp)) g5 h2).mono ?_
   rintro r M10 ⟨hN6, hF6⟩
   (repeat (first | refine st ?_ | refine σa ?_ | (refine σb ?_; simp (disch := omega) only [push_cast, ↓reduceIte, reduceCtorEq, ν1, ν2, ν3, ν4, ν5, ζ1, ζ2, ζ3, ζ4, ζ5])))
   refine wputK (W6.keep hF6) hN6.sl (W6.sep hN6.blk) (by rw [foursL_length]; omega) (by rw [List.length_append]; omega) (fl := 192) rfl (.inr (.inr rfl)) ?_
   intro r w4 M7 W7
   (repeat (first | refine st ?_ | refine σa ?_ | (refine σb ?_; simp (disch := omega) only [push_cast, ↓reduceIte, reduceCtorEq, ν1, ν2, ν3, ν4, ν5, ζ1, ζ2, ζ3, ζ4, ζ5])))
   have e : putP a = out4 ++ (if a.hasPref = true then oneP 64 5 (foursL [a.pref]) else []) ++ oneP 192 8 (foursL a.comms) := by unfold putP; rw [hout, if_neg cc]
   rw [e]
   exact ⟨rfl, w4, W7⟩
 rintro g4 M11 ⟨w6, W8⟩
 (repeat (first | refine st ?_ | refine σa ?_ | (refine σb ?_; simp (disch := omega) only [push_cast, ↓reduceIte, reduceCtorEq, ν1, ν2, ν3, ν4, ν5, ζ1, ζ2, ζ3, ζ4, ζ5, W8.wr.ld])))
 ((first | refine retA.ret (by rfl) ?_ | refine retA.normal (by rfl) ?_); simp (disch := omega) only [push_cast, ↓reduceIte, reduceCtorEq, Nat.reduceAdd, Nat.reduceMul, Nat.reduceLeDiff, Nat.reduceLT, Nat.reduceSub, Int.reduceNe, Int.reduceEq, Int.reduceLE, Int.reduceLT, Int.reduceToNat])
 exact ⟨W8.fr, .inl ⟨hr, w6, rfl, W8.own, fun a' n' c' e hc0 => by have := W8.blk a'.block (by rw [e]; simp [blkOf, hc0]); have := W8.lt; omega⟩⟩
structure MVin (M : Mem) (m : MV) (g a c nw d : Value) : Prop where
 gone : Sl M g 2 (pxs m.gone)
 path : Sl M a 1 (ints .u32 m.attrs.path)
 comms : Sl M c 1 (ints .u32 m.attrs.comms)
 new : Sl M nw 2 (pxs m.new)
 data : Sl M d 1 (ints .u8 m.data)
theorem MVin.keep {M M' : Mem} {m : MV} {g a c nw d : Value} {X : List Nat} (h : MVin M m g a c nw d) (f : Fr M M' X) (hx : ∀ b, b < M.length → b ∉ X) : MVin M' m g a c nw d :=
 ⟨h.gone.keep f (fun b hb => hx b (h.gone.blks b hb)), h.path.keep f (fun b hb => hx b (h.path.blks b hb)), h.comms.keep f (fun b hb => hx b (h.comms.blks b hb)), h.new.keep f (fun b hb => hx b (h.new.blks b hb)), h.data.keep f (fun b hb => hx b (h.data.blks b hb))⟩
def sizeM (m : MV) : Prop := m.gone.length ≤ 20000 ∧ m.new.length ≤ 20000 ∧ m.data.length ≤ 20000 ∧ m.attrs.path.length ≤ 100000 ∧ m.attrs.comms.length ≤ 100000
theorem twoB_wrap (n : Int) : twoB (n % 65536) = twoB n := by
 unfold twoB
 have e1 : n % 65536 / 256 % 256 = n / 256 % 256 := by omega
 have e2 : n % 65536 % 256 = n % 256 := by omega
 rw [e1, e2]
theorem wupd_spec (p : Nat) (v : Value) (bs : List Int) (m : MV) (g a c nw d : Value) (M : Mem) (h : WrA M p v bs) (hi : MVin M m g a c nw d) (hk : m.kind = 2) (hr : rightM m) (hg : goodM m) (hz : sizeM m) (hl : bs.length ≤ 1000) :
  CallA Try.prog 66 [.pointer (some ⟨p, 0, none⟩), .agg ⟨mvL m g a c nw d⟩] M fun r M' => r = .tuple ⟨[]⟩ ∧ WrS M p v (bs ++ bodyB m) M' := by
 unfold rightM at hr
 rw [if_neg (by omega), if_pos hk] at hr
 obtain ⟨gb, hgb⟩ := nlPut_some hr.1
 obtain ⟨nb, hnb⟩ := nlPut_some hr.2.1
 have lgb := (nlPut_len hgb).2
 have lnb := (nlPut_len hnb).2
 obtain ⟨z1, z2, z3, z4, z5⟩ := hz
 obtain ⟨u1, u2, u3, u4, u5, u6⟩ := hg
 have hpM := h.at'.lt
 have hvM := h.own.sl.blks
 have hnn := hi.new.lnX
 have hsn := hi.new.isSl
 (refine CallA.of_body Try.func66 rfl (by rfl) ?_; simp only [Try.ntmps66, List.length_cons, List.length_nil, List.replicate, List.cons_append, List.nil_append, Nat.reduceSub, Nat.reduceAdd])
 (repeat (first | refine st ?_ | refine σa ?_ | (refine σb ?_; simp (disch := omega) only [push_cast, ↓reduceIte, reduceCtorEq, ν1, ν2, ν3, ν4, ν5, ζ1, ζ2, ζ3, ζ4, ζ5, mvL_ld, buildE, memE, boxE])))
 have P0 := Fr.push M (.box (mvL m g a c nw d))
 have B0 := At.push M (.box (mvL m g a c nw d))
 generalize hM0 : M ++ [Blk.box (mvL m g a c nw d)] = M0 at *
 have hlen0 : M0.length = M.length + 1 := by rw [← hM0]; simp
 refine (nlput_spec g m.gone M0 (hi.gone.keep P0 (by simp)) u3 (by omega)).mono ?_
 rintro r M1 ⟨f1, hr1⟩
 obtain ⟨w1, rfl, n1⟩ : ∃ w, r = .tuple ⟨[w, .int .i64 0]⟩ ∧ New M0 M1 w 1 (ints .u8 gb) := by
  rcases hr1 with ⟨bs', w, e1, e2, e3⟩ | ⟨e, _⟩
  ·rw [hgb] at e1; cases e1; exact ⟨w, e2, e3⟩
  ·rw [hgb] at e; cases e
 have B1 := B0.keep f1 (by simp)
 (repeat (first | refine st ?_ | refine σa ?_ | (refine σb ?_; simp (disch := omega) only [push_cast, ↓reduceIte, reduceCtorEq, ν1, ν2, ν3, ν4, ν5, ζ1, ζ2, ζ3, ζ4, ζ5, B1.ld, mvL_ld, buildE])))
 refine (nlput_spec nw m.new M1 ((hi.new.keep P0 (by simp)).keep f1 (by simp)) u4 (by omega)).mono ?_
 rintro r M2 ⟨f2, hr2⟩
 obtain ⟨w2, rfl, n2⟩ : ∃ w, r = .tuple ⟨[w, .int .i64 0]⟩ ∧ New M1 M2 w 1 (ints .u8 nb) := by
  rcases hr2 with ⟨bs', w, e1, e2, e3⟩ | ⟨e, _⟩
  ·rw [hnb] at e1; cases e1; exact ⟨w, e2, e3⟩
  ·rw [hnb] at e; cases e
 have B2 := B1.keep f2 (by simp)
 have n1' := n1.keep f2 (by simp)
 have F2 := (P0.tr f1).tr f2
 have hsn2 := hi.new.isSl
 (repeat (first | refine st ?_ | refine σa ?_ | (refine σb ?_; simp (disch := omega) only [push_cast, ↓reduceIte, reduceCtorEq, ν1, ν2, ν3, ν4, ν5, ζ1, ζ2, ζ3, ζ4, ζ5, B2.ld, hsn, hnn, mvL_ld, buildE])))
 refine AW.joinF [8, 25, 26, 27, 28, 29, 30] (fun q M' => Fr M2 M' [] ∧ New M2 M' (q 8) 1 (ints .u8 (attrsB m))) ?_ ?_
 ·by_cases hne : m.new = []
  ·have d : decide ((m.new.length : Int) > 0) = false := decide_eq_false (by rw [hne]; simp)
   have ea : attrsB m = [] := by unfold attrsB; rw [if_pos hne]
   (repeat (first | refine st ?_ | refine σa ?_ | (refine σb ?_; simp (disch := omega) only [push_cast, ↓reduceIte, reduceCtorEq, ν1, ν2, ν3, ν4, ν5, ζ1, ζ2, ζ3, ζ4, ζ5, d])))
   exact ⟨rfl, Fr.refl _, by rw [ea]; exact New.nil _ (by omega)⟩
  ·have hpos := List.length_pos_iff.2 hne
   have d : decide ((m.new.length : Int) > 0) = true := decide_eq_true (by omega)
   have ea : attrsB m = putP m.attrs := by unfold attrsB; rw [if_neg hne]
   have hrp : rightP m.attrs := by rcases hr.2.2 with h | h; exact absurd h hne; exact h
   (repeat (first | refine st ?_ | refine σa ?_ | (refine σb ?_; simp (disch := omega) only [push_cast, ↓reduceIte, reduceCtorEq, ν1, ν2, ν3, ν4, ν5, ζ1, ζ2, ζ3, ζ4, ζ5, d, B2.ld, mvL_ld, buildE])))
   refine (put_spec m.attrs a c M2 (hi.path.keep F2 (by simp)) (hi.comms.keep F2 (by simp)) u5 (by omega) (by omega)).mono ?_
   rintro r M3 ⟨f3, hr3⟩
   obtain ⟨w3, rfl, n3⟩ : ∃ w, r = .tuple ⟨[w, .int .i64 0]⟩ ∧ New M2 M3 w 1 (ints .u8 (putP m.attrs)) := by
    rcases hr3 with ⟨_, w, e2, e3⟩ | ⟨e, _⟩
    ·exact ⟨w, e2, e3⟩
    ·exact absurd hrp e
   (repeat (first | refine st ?_ | refine σa ?_ | (refine σb ?_; simp (disch := omega) only [push_cast, ↓reduceIte, reduceCtorEq, ν1, ν2, ν3, ν4, ν5, ζ1, ζ2, ζ3, ζ4, ζ5])))
   exact ⟨rfl, f3, by rw [ea]; exact n3⟩
 ·rintro q M3 ⟨f3, n3⟩
  obtain ⟨w3, hw3⟩ : ∃ w3, q 8 = w3 := ⟨_, rfl⟩
  rw [hw3] at n3
  simp (disch := omega) only [push_cast, ↓reduceIte, reduceCtorEq, Nat.reduceAdd, Nat.reduceMul, Nat.reduceLeDiff, Nat.reduceLT, Nat.reduceSub, Int.reduceNe, Int.reduceEq, Int.reduceLE, Int.reduceLT, Int.reduceToNat, hw3]
  have F3 := F2.tr f3
  have n1a := n1'.keep f3 (by simp)
  have n2a := n2.keep f3 (by simp)
  have s1 := n1a.sl.isSl
  have l1 := n1a.sl.lnI
  have s3 := n3.sl.isSl
  have l3 := n3.sl.lnI
  (repeat (first | refine st ?_ | refine σa ?_ | (refine σb ?_; simp (disch := omega) only [push_cast, ↓reduceIte, reduceCtorEq, ν1, ν2, ν3, ν4, ν5, ζ1, ζ2, ζ3, ζ4, ζ5, s1, l1])))
  have A3 := h.keep F3 (by simp)
  have la : (attrsB m).length ≤ 3000 := by
   unfold attrsB
   split
   ·simp
   ·rename_i hne
    have hrp : rightP m.attrs := by rcases hr.2.2 with h | h; exact absurd h hne; exact h
    exact (putP_bytes hrp u5).2
  have sep : ∀ (w : Value), (∀ b ∈ blkOf w, M.length ≤ b) → ∀ b ∈ blkOf w, b ∉ p :: blkOf v := fun w hw b hb hc => by
   have h1 := hw b hb
   rcases List.mem_cons.1 hc with h2 | h2
   ·omega
   ·have := hvM b h2; omega
  have lM2 : M0.length ≤ M1.length ∧ M1.length ≤ M2.length := ⟨f1.1, f2.1⟩
  have k1 := sep w1 (fun b hb => by have := n1.blk b hb; omega)
  have k2 := sep w2 (fun b hb => by have := n2.blk b hb; omega)
  have k3 := sep w3 (fun b hb => by have := n3.blk b hb; omega)
  rw [wm_u16]
  refine (wtwo_spec p v bs ((gb.length : Int) % 65536) M3 A3 (by omega) (by omega)).mono ?_
  rintro r M4 ⟨rfl, F4, v4, A4, N4⟩
  rw [twoB_wrap] at A4 N4
  (repeat (first | refine st ?_ | refine σa ?_ | (refine σb ?_; simp (disch := omega) only [push_cast, ↓reduceIte, reduceCtorEq, ν1, ν2, ν3, ν4, ν5, ζ1, ζ2, ζ3, ζ4, ζ5])))
  refine (woct_spec p v4 _ w1 gb M4 A4 (n1a.sl.keep F4 k1) (by simp [twoB]; omega)).mono ?_
  rintro r M5 ⟨rfl, W5⟩
  obtain ⟨F5, v5, A5, N5⟩ := WrS.tr F4 N4 W5
  have l3' := l3
  have sa := (n3.sl.keep F5 k3).isSl
  (repeat (first | refine st ?_ | refine σa ?_ | (refine σb ?_; simp (disch := omega) only [push_cast, ↓reduceIte, reduceCtorEq, ν1, ν2, ν3, ν4, ν5, ζ1, ζ2, ζ3, ζ4, ζ5, s3, l3])))
  rw [wm_u16]
  refine (wtwo_spec p v5 _ (((attrsB m).length : Int) % 65536) M5 A5 (by omega) (by simp [twoB]; omega)).mono ?_
  rintro r M6 ⟨rfl, W6⟩
  rw [twoB_wrap] at W6
  obtain ⟨F6, v6, A6, N6⟩ := WrS.tr F5 N5 W6
  (repeat (first | refine st ?_ | refine σa ?_ | (refine σb ?_; simp (disch := omega) only [push_cast, ↓reduceIte, reduceCtorEq, ν1, ν2, ν3, ν4, ν5, ζ1, ζ2, ζ3, ζ4, ζ5])))
  refine (woct_spec p v6 _ w3 (attrsB m) M6 A6 (n3.sl.keep F6 k3) (by simp [twoB]; omega)).mono ?_
  rintro r M7 ⟨rfl, W7⟩
  obtain ⟨F7, v7, A7, N7⟩ := WrS.tr F6 N6 W7
  (repeat (first | refine st ?_ | refine σa ?_ | (refine σb ?_; simp (disch := omega) only [push_cast, ↓reduceIte, reduceCtorEq, ν1, ν2, ν3, ν4, ν5, ζ1, ζ2, ζ3, ζ4, ζ5])))
  refine (woct_spec p v7 _ w2 nb M7 A7 (n2a.sl.keep F7 k2) (by simp [twoB]; omega)).mono ?_
  rintro r M8 ⟨rfl, W8⟩
  have W := (WrS.tr F7 N7 W8).pre F3
  (repeat (first | refine st ?_ | refine σa ?_ | (refine σb ?_; simp (disch := omega) only [push_cast, ↓reduceIte, reduceCtorEq, ν1, ν2, ν3, ν4, ν5, ζ1, ζ2, ζ3, ζ4, ζ5])))
  ((first | refine retA.ret (by rfl) ?_ | refine retA.normal (by rfl) ?_); simp (disch := omega) only [push_cast, ↓reduceIte, reduceCtorEq, Nat.reduceAdd, Nat.reduceMul, Nat.reduceLeDiff, Nat.reduceLT, Nat.reduceSub, Int.reduceNe, Int.reduceEq, Int.reduceLE, Int.reduceLT, Int.reduceToNat])
  have e : bodyB m = twoB gb.length ++ gb ++ twoB (attrsB m).length ++ attrsB m ++ nb := by
   unfold bodyB; rw [if_neg (by omega), if_pos hk, hgb, hnb]; rfl
  rw [e]
  simp only [List.append_assoc] at W ⊢
  exact W
theorem d95_Ar2 {g n : Prop} (k : n) (h : n → g := by first | exact AW.dr (id := 6) (by rfl) [0, 1, 2, 3, 4, 5, 6, 7, 8] (by kernel_rfl) (by kernel_rfl)) : g := h k
theorem nums_spec (v w : Value) (xs ys : List Int) (M : Mem) (hv : Sl M v 1 (ints .u32 xs)) (hw : Sl M w 1 (ints .u32 ys)) (hl : xs.length ≤ 1000000000) : CallA Try.prog 95 [v, w] M fun r M' => M' = M ∧ r = .bool (decide (xs = ys)) := by
 have hs := hv.isSl
 have hn := hv.lnI
 have hs2 := hw.isSl
 have hn2 := hw.lnI
 (refine CallA.of_body Try.func95 rfl (by rfl) ?_; simp only [Try.ntmps95, List.length_cons, List.length_nil, List.replicate, List.cons_append, List.nil_append, Nat.reduceSub, Nat.reduceAdd])
 by_cases hlen : xs.length = ys.length
 ·have d0 : decide ((xs.length : Int) = ys.length) = true := decide_eq_true (by omega)
  (repeat (first | refine st ?_ | refine σa ?_ | refine d95_Ar2 ?_ | ((first | refine σb ?_ | refine σc ?_); simp (disch := omega) only [push_cast, ↓reduceIte, reduceCtorEq, ν1, ν2, ν3, ν4, ν5, ζ1, ζ2, ζ3, ζ4, ζ5, hs, hn, hs2, hn2, d0, Bool.not_true])))
  refine AW.loopF [4, 5, 13, 14, 15, 16, 17, 18, 19, 20, 21, 22, 23, 24, 25] (fun m g M' => ∃ i : Nat, g 13 = .int .i64 i ∧ i + m = xs.length ∧ M' = M ∧ ∀ q, q < i → xs.getD q 0 = ys.getD q 0) xs.length ?_ ?_
  ·exact ⟨0, rfl, by omega, rfl, fun q h => by omega⟩
  rintro m g M1 ⟨i, h13, hi, rfl, he⟩
  simp (disch := omega) only [push_cast, ↓reduceIte, reduceCtorEq, Nat.reduceAdd, Nat.reduceMul, Nat.reduceLeDiff, Nat.reduceLT, Nat.reduceSub, Int.reduceNe, Int.reduceEq, Int.reduceLE, Int.reduceLT, Int.reduceToNat, h13]
  (repeat (first | refine st ?_ | refine σa ?_ | refine d95_Ar2 ?_ | ((first | refine σb ?_ | refine σc ?_); simp (disch := omega) only [push_cast, ↓reduceIte, reduceCtorEq, ν1, ν2, ν3, ν4, ν5, ζ1, ζ2, ζ3, ζ4, ζ5])))
  ((first | refine AL.gu rfl (fun hlt => ?_) (fun hlt => ?_) | refine AW.condS rfl rfl (fun hlt => ?_) (fun hlt => ?_)) <;> (try (have hlt' := hlt; simp only [Bool.not_eq_true', Bool.not_eq_false', Bool.not_true, Bool.not_false, decide_eq_true_eq, decide_eq_false_iff_not, Classical.not_not, Int.not_lt, Int.not_le, gt_iff_lt, ge_iff_le, beq_iff_eq] at hlt')))
  ·have l1 := hv.ldN (P := Try.prog) (ty := 30) (i := i) (by kernel_rfl) (by omega)
   have l2 := hw.ldN (P := Try.prog) (ty := 30) (i := i) (by kernel_rfl) (by omega)
   (repeat (first | refine st ?_ | refine σa ?_ | refine d95_Ar2 ?_ | ((first | refine σb ?_ | refine σc ?_); simp (disch := omega) only [push_cast, ↓reduceIte, reduceCtorEq, ν1, ν2, ν3, ν4, ν5, ζ1, ζ2, ζ3, ζ4, ζ5, hs, hn, hs2, hn2, l1, l2, Int.toNat_natCast])))
   ((first | refine AL.gu rfl (fun hne => ?_) (fun hne => ?_) | refine AW.condS rfl rfl (fun hne => ?_) (fun hne => ?_)) <;> (try (have hne' := hne; simp only [Bool.not_eq_true', Bool.not_eq_false', Bool.not_true, Bool.not_false, decide_eq_true_eq, decide_eq_false_iff_not, Classical.not_not, Int.not_lt, Int.not_le, gt_iff_lt, ge_iff_le, beq_iff_eq] at hne')))
   ·(repeat (first | refine st ?_ | refine σa ?_ | refine d95_Ar2 ?_ | ((first | refine σb ?_ | refine σc ?_); simp (disch := omega) only [push_cast, ↓reduceIte, reduceCtorEq, ν1, ν2, ν3, ν4, ν5, ζ1, ζ2, ζ3, ζ4, ζ5])))
    ((first | refine retA.ret (by rfl) ?_ | refine retA.normal (by rfl) ?_); simp (disch := omega) only [push_cast, ↓reduceIte, reduceCtorEq, Nat.reduceAdd, Nat.reduceMul, Nat.reduceLeDiff, Nat.reduceLT, Nat.reduceSub, Int.reduceNe, Int.reduceEq, Int.reduceLE, Int.reduceLT, Int.reduceToNat])
    have hx : xs ≠ ys := fun e => hne' (by rw [e])
    simp [hx]
   ·(repeat (first | refine st ?_ | refine σa ?_ | refine d95_Ar2 ?_ | ((first | refine σb ?_ | refine σc ?_); simp (disch := omega) only [push_cast, ↓reduceIte, reduceCtorEq, ν1, ν2, ν3, ν4, ν5, ζ1, ζ2, ζ3, ζ4, ζ5, w_i64])))
    refine ⟨rfl, m - 1, by omega, i + 1, rfl, by omega, rfl, fun q hq => ?_⟩
    by_cases e : q = i
    ·rw [e]; exact hne'
    ·exact he q (by omega)
  ·(repeat (first | refine st ?_ | refine σa ?_ | refine d95_Ar2 ?_ | ((first | refine σb ?_ | refine σc ?_); simp (disch := omega) only [push_cast, ↓reduceIte, reduceCtorEq, ν1, ν2, ν3, ν4, ν5, ζ1, ζ2, ζ3, ζ4, ζ5])))
   ((first | refine retA.ret (by rfl) ?_ | refine retA.normal (by rfl) ?_); simp (disch := omega) only [push_cast, ↓reduceIte, reduceCtorEq, Nat.reduceAdd, Nat.reduceMul, Nat.reduceLeDiff, Nat.reduceLT, Nat.reduceSub, Int.reduceNe, Int.reduceEq, Int.reduceLE, Int.reduceLT, Int.reduceToNat])
   have hx : xs = ys := by
    apply List.ext_getElem hlen
    intro q h1 h2
    have := he q (by omega)
    rwa [getD_lt h1, getD_lt h2] at this
   simp [hx]
 ·have d0 : decide ((xs.length : Int) = ys.length) = false := decide_eq_false (by omega)
  (repeat (first | refine st ?_ | refine σa ?_ | refine d95_Ar2 ?_ | ((first | refine σb ?_ | refine σc ?_); simp (disch := omega) only [push_cast, ↓reduceIte, reduceCtorEq, ν1, ν2, ν3, ν4, ν5, ζ1, ζ2, ζ3, ζ4, ζ5, hs, hn, hs2, hn2, d0, Bool.not_false])))
  ((first | refine retA.ret (by rfl) ?_ | refine retA.normal (by rfl) ?_); simp (disch := omega) only [push_cast, ↓reduceIte, reduceCtorEq, Nat.reduceAdd, Nat.reduceMul, Nat.reduceLeDiff, Nat.reduceLT, Nat.reduceSub, Int.reduceNe, Int.reduceEq, Int.reduceLE, Int.reduceLT, Int.reduceToNat])
  have hx : xs ≠ ys := fun e => hlen (by rw [e])
  simp [hx]
end Go.Proofs.Ytbdejnnbpdgjlaa.Ax
