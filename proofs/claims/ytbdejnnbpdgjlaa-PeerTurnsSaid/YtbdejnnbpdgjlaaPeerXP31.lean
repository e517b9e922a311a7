/- Contracts of functions over the abstract machine. No conditions: lemmas alone. -/
import Derived.Test.YtbdejnnbpdgjlaaPeerXLibD
import Derived.Test.YtbdejnnbpdgjlaaPeerXP0
import Derived.Test.YtbdejnnbpdgjlaaPeerXP30
namespace Go.Proofs.Ytbdejnnbpdgjlaa.Ax
open Go Go.RowKit
open Nat renaming reduceAdd → ν1, reduceMul → ν2, reduceLeDiff → ν3, reduceLT → ν4, reduceSub → ν5
open Int renaming reduceNe → ζ1, reduceEq → ζ2, reduceLE → ζ3, reduceLT → ζ4, reduceToNat → ζ5
set_option linter.unusedVariables false
set_option linter.unusedSimpArgs false
set_option maxRecDepth 100000
set_option maxHeartbeats 20000000
attribute [local irreducible] thenA blockA scopeA retA AL AW AD ADL AH clrK CallA apure aload bload appK ptrK fnK ares szOk planOk okOps
theorem conf_in {M : Mem} {v : Value} (h : In70 M v) : ∃ c : CF, v = .agg ⟨cfL c⟩ ∧ u32 c.asn ∧ u32 c.id ∧ u32 c.peer ∧ (-9223372036854775808 ≤ c.hold ∧ c.hold ≤ 9223372036854775807) := by
 obtain ⟨acs, rfl, _, _, rfl, ⟨asn, has, rfl⟩, _, _, rfl, ⟨id, hid, rfl⟩, _, _, rfl, ⟨hold, hho, rfl⟩, _, _, rfl, ⟨pe, hpe, rfl⟩, rfl⟩ := h
 exact ⟨⟨asn, id, hold, pe⟩, rfl, wf_u32 has, wf_u32 hid, wf_u32 hpe, wf_i64 hho⟩
theorem cfL_ld (P : Program) (ty : TypeId) (c : CF) (j : Nat) : bload P ty (cfL c) j = bload P ty [.int .u32 c.asn, .int .u32 c.id, .int .i64 c.hold, .int .u32 c.peer] j := rfl
theorem pvL_drop (p : PV) (vb : Value) : List.drop 10 (pvL p vb) = [] := rfl
structure TwoP (M : Mem) (a b : Nat) (p q : PV) (u w : Value) : Prop where
 ne : a ≠ b
 A : At M a (.box (pvL p u))
 B : At M b (.box (pvL q w))
 su : Sl M u 1 (ints .u8 p.buf)
 sw : Sl M w 1 (ints .u8 q.buf)
 ub : ∀ x ∈ blkOf u, x ≠ a ∧ x ≠ b
 wb : ∀ x ∈ blkOf w, x ≠ a ∧ x ≠ b
theorem TwoP.keep {M M' : Mem} {a b : Nat} {p q : PV} {u w : Value} (h : TwoP M a b p q u w) (f : Fr M M' []) : TwoP M' a b p q u w :=
 ⟨h.ne, h.A.keep f (by simp), h.B.keep f (by simp), h.su.keep f (by simp), h.sw.keep f (by simp), h.ub, h.wb⟩
theorem TwoP.setA {M : Mem} {a b : Nat} {p q p' : PV} {u w u' : Value} (h : TwoP M a b p q u w) (hu : Sl M u' 1 (ints .u8 p'.buf)) (hb : ∀ x ∈ blkOf u', x ≠ a ∧ x ≠ b) : TwoP (M.set a (.box (pvL p' u'))) a b p' q u' w := by
 have f := Fr.set M a (.box (pvL p' u'))
 exact ⟨h.ne, h.A.set _, h.B.keep f (by simpa using h.ne.symm), hu.keep f (fun x hx hx' => (hb x hx).1 (by simpa using hx')), h.sw.keep f (fun x hx hx' => (h.wb x hx).1 (by simpa using hx')), hb, h.wb⟩
theorem TwoP.setB {M : Mem} {a b : Nat} {p q q' : PV} {u w w' : Value} (h : TwoP M a b p q u w) (hw : Sl M w' 1 (ints .u8 q'.buf)) (hb : ∀ x ∈ blkOf w', x ≠ a ∧ x ≠ b) : TwoP (M.set b (.box (pvL q' w'))) a b p q' u w' := by
 have f := Fr.set M b (.box (pvL q' w'))
 exact ⟨h.ne, h.A.keep f (by simpa using h.ne), h.B.set _, h.su.keep f (fun x hx hx' => (h.ub x hx).2 (by simpa using hx')), hw.keep f (fun x hx hx' => (hb x hx).2 (by simpa using hx')), h.ub, hb⟩
def metP (c o : CF) (i : Nat) : PV := if i = 0 then freshP c 2 else if i = 1 then heardP c o 3 else heardP c o 4
def metB (c : CF) (i : Nat) : List Int := if i = 0 then (putM (openM c)).1 else if i = 1 then (putM aliveM).1 else []
theorem metP_buf (c o : CF) (i : Nat) : (metP c o i).buf = [] := by unfold metP; split; rfl; split <;> rfl
theorem metB_byte {c : CF} (h1 : u32 c.asn) (h2 : u32 c.id) (hr : rightC c) (i : Nat) : bytesL (metB c i) := by
 unfold metB
 split
 ·have h := put_open hr
  exact putM_byteL (good_open h1 h2) (Prod.ext rfl h)
 split
 ·exact putM_byteL good_alive (Prod.ext rfl put_alive)
 ·intro x hx; cases hx
theorem metB_len (c : CF) (h1 : u32 c.asn) (h2 : u32 c.id) (i : Nat) : (metB c i).length ≤ 4096 := by
 unfold metB
 split
 ·exact putM_bytes (good_open h1 h2)
 split
 ·exact putM_bytes good_alive
 ·exact Nat.zero_le _
theorem met_step {c o : CF} (hc : rightC c) (ho : rightC o) (hpe : c.peer = o.asn) (hid : o.id ≠ c.id) (u1 : u32 o.asn) (u2 : u32 o.id) {i : Nat} (hi : i < 3) : ∃ e, feedP (metP c o i) (metB o i) = ⟨metP c o (i + 1), metB c (i + 1), e⟩ := by
 match i, hi with
 | 0, _ => exact ⟨[], meet_open hc ho hpe hid u1 u2⟩
 | 1, _ => exact ⟨_, meet_alive hc⟩
 | 2, _ => exact ⟨[], feed_nothing rfl⟩
structure MeetJ (M : Mem) (s a b : Nat) (cc dd : CF) (p q : PV) (u w x y : Value) (xs ys : List Int) : Prop where
 two : TwoP M a b p q u w
 C : At M s (.box (cfL cc))
 D : At M (s + 1) (.box (cfL dd))
 sx : Sl M x 1 (ints .u8 xs)
 sy : Sl M y 1 (ints .u8 ys)
 xb : ∀ z ∈ blkOf x, z ≠ a ∧ z ≠ b
 yb : ∀ z ∈ blkOf y, z ≠ a ∧ z ≠ b
theorem MeetJ.keep {M M' : Mem} {s a b : Nat} {cc dd : CF} {p q : PV} {u w x y : Value} {xs ys : List Int} (h : MeetJ M s a b cc dd p q u w x y xs ys) (f : Fr M M' []) : MeetJ M' s a b cc dd p q u w x y xs ys :=
 ⟨h.two.keep f, h.C.keep f (by simp), h.D.keep f (by simp), h.sx.keep f (by simp), h.sy.keep f (by simp), h.xb, h.yb⟩
theorem MeetJ.setA {M : Mem} {s a b : Nat} {cc dd : CF} {p q p' : PV} {u w x y u' x' : Value} {xs ys xs' : List Int} (h : MeetJ M s a b cc dd p q u w x y xs ys) (hs : s + 1 < a) (hu : Sl M u' 1 (ints .u8 p'.buf)) (hb : ∀ z ∈ blkOf u', z ≠ a ∧ z ≠ b) (hx : Sl M x' 1 (ints .u8 xs')) (hxb : ∀ z ∈ blkOf x', z ≠ a ∧ z ≠ b) :
  MeetJ (M.set a (.box (pvL p' u'))) s a b cc dd p' q u' w x' y xs' ys := by
 have f := Fr.set M a (.box (pvL p' u'))
 exact ⟨h.two.setA hu hb, h.C.keep f (by simp; omega), h.D.keep f (by simp; omega), hx.keep f (fun z hz hz' => (hxb z hz).1 (by simpa using hz')), h.sy.keep f (fun z hz hz' => (h.yb z hz).1 (by simpa using hz')), hxb, h.yb⟩
theorem MeetJ.setB {M : Mem} {s a b : Nat} {cc dd : CF} {p q q' : PV} {u w x y w' y' : Value} {xs ys ys' : List Int} (h : MeetJ M s a b cc dd p q u w x y xs ys) (hs : s + 1 < b) (hw : Sl M w' 1 (ints .u8 q'.buf)) (hb : ∀ z ∈ blkOf w', z ≠ a ∧ z ≠ b) (hy : Sl M y' 1 (ints .u8 ys')) (hyb : ∀ z ∈ blkOf y', z ≠ a ∧ z ≠ b) :
  MeetJ (M.set b (.box (pvL q' w'))) s a b cc dd p q' u w' x y' xs ys' := by
 have f := Fr.set M b (.box (pvL q' w'))
 exact ⟨h.two.setB hw hb, h.C.keep f (by simp; omega), h.D.keep f (by simp; omega), h.sx.keep f (fun z hz hz' => (h.xb z hz).2 (by simpa using hz')), hy.keep f (fun z hz hz' => (hyb z hz).2 (by simpa using hz')), h.xb, hyb⟩
theorem peerMeet_in (M : Mem) (v0 v1 v2 : Value) (h0 : In70 M v0) (h1 : In70 M v1) (h2 : In5 M v2) : CallA Try.prog 10 [v0, v1, v2] M fun r _ => r = .bool true := by
 obtain ⟨c, rfl, c1, c2, c3, c4⟩ := conf_in h0
 obtain ⟨d, rfl, d1, d2, d3, d4⟩ := conf_in h1
 obtain ⟨times, ht, e⟩ := h2
 cases e
 obtain ⟨ht0, ht1⟩ := wf_u8 ht
 have P0 := Fr.push2 M (.box (cfL c)) (.box (cfL d))
 have A0 := (At.push M (.box (cfL c))).keep (Fr.push _ (.box (cfL d))) (by simp)
 have B0 := At.push (M ++ [.box (cfL c)]) (.box (cfL d))
 rw [List.length_append, List.length_singleton] at B0
 unfold cfL at P0 A0 B0
 unfold cfL
 (refine CallA.of_body Try.func10 rfl (by rfl) ?_; simp only [Try.ntmps10, List.length_cons, List.length_nil, List.replicate, List.cons_append, List.nil_append, Nat.reduceSub, Nat.reduceAdd])
 (repeat (first | refine st ?_ | refine σa ?_ | (refine σb ?_; simp (disch := omega) only [push_cast, ↓reduceIte, reduceCtorEq, ν1, ν2, ν3, ν4, ν5, ζ1, ζ2, ζ3, ζ4, ζ5, mem2E, buildE, lsE])))
 generalize M ++ [Blk.box [.int .u32 c.asn, .int .u32 c.id, .int .i64 c.hold, .int .u32 c.peer]] ++ [Blk.box [.int .u32 d.asn, .int .u32 d.id, .int .i64 d.hold, .int .u32 d.peer]] = M0 at *
 obtain ⟨s, hs⟩ : ∃ s, s = M.length := ⟨_, rfl⟩
 rw [← hs] at A0 B0 ⊢
 refine (alive27_spec _).mono ?_
 rintro r M1 ⟨F1, rfl⟩
 have A1 := A0.keep F1 (by simp)
 have B1 := B0.keep F1 (by simp)
 have la := A1.lt
 have lb := B1.lt
 have ne1 : s ≠ s + 1 := by omega
 have ne2 : s + 1 ≠ s := by omega
 have X2 := Fr.set M1 (s + 1) (.box [.int .u32 d.asn, .int .u32 d.id, .int .i64 d.hold, .int .u32 c.asn])
 have A2 := A1.keep X2 (by simp)
 have B2 := B1.set (.box [.int .u32 d.asn, .int .u32 d.id, .int .i64 d.hold, .int .u32 c.asn])
 have X3 := Fr.set (M1.set (s + 1) (.box [.int .u32 d.asn, .int .u32 d.id, .int .i64 d.hold, .int .u32 c.asn])) s (.box [.int .u32 c.asn, .int .u32 c.id, .int .i64 c.hold, .int .u32 d.asn])
 have A3 := A2.set (.box [.int .u32 c.asn, .int .u32 c.id, .int .i64 c.hold, .int .u32 d.asn])
 have B3 := B2.keep X3 (by simp)
 (repeat (first | refine st ?_ | refine σa ?_ | (refine σb ?_; simp (disch := omega) only [push_cast, ↓reduceIte, reduceCtorEq, ν1, ν2, ν3, ν4, ν5, ζ1, ζ2, ζ3, ζ4, ζ5, A1.ld, B1.ld, B1.get, B1.same, A2.get, A2.same, A3.ld, B3.ld, ld_ne, List.drop_nil, List.append_nil, Bool.not_true, boxE, buildE, lsE])))
 generalize (M1.set (s + 1) (Blk.box [.int .u32 d.asn, .int .u32 d.id, .int .i64 d.hold, .int .u32 c.asn])).set s (Blk.box [.int .u32 c.asn, .int .u32 c.id, .int .i64 c.hold, .int .u32 d.asn]) = M3 at *
 obtain ⟨cc, hcc⟩ : ∃ cc : CF, cc = { c with peer := d.asn } := ⟨_, rfl⟩
 obtain ⟨dd, hdd⟩ : ∃ dd : CF, dd = { d with peer := c.asn } := ⟨_, rfl⟩
 have Ac : At M3 s (.box (cfL cc)) := by rw [hcc]; exact A3
 have Bd : At M3 (s + 1) (.box (cfL dd)) := by rw [hdd]; exact B3
 have g1 : cc.asn = c.asn := by rw [hcc]
 have g2 : cc.id = c.id := by rw [hcc]
 have g3 : dd.asn = d.asn := by rw [hdd]
 have g4 : dd.id = d.id := by rw [hdd]
 have g5 : cc.peer = dd.asn := by rw [hcc, hdd]
 have g6 : dd.peer = cc.asn := by rw [hcc, hdd]
 have u1 : u32 cc.asn := by rw [g1]; exact c1
 have u2 : u32 cc.id := by rw [g2]; exact c2
 have u3 : u32 dd.asn := by rw [g3]; exact d1
 have u4 : u32 dd.id := by rw [g4]; exact d2
 refine CallA.mono (by rw [show ([Value.int .u32 c.asn, .int .u32 c.id, .int .i64 c.hold, .int .u32 d.asn]) = cfL cc by rw [hcc]; rfl]; exact pnew_spec cc M3) ?_
 rintro r M4 ⟨F4, rfl⟩
 obtain ⟨p1, n1, hn1⟩ : ∃ p1 n1, newP cc = (p1, n1) := ⟨_, _, rfl⟩
 have hr1 : n1 = 0 → rightC cc ∧ p1 = freshP cc 1 := by
  intro h
  unfold newP at hn1
  split at hn1
  ·rename_i hr; exact ⟨hr, (congrArg Prod.fst hn1).symm⟩
  ·have := congrArg Prod.snd hn1; simp at this; omega
 rw [hn1]
 have one1 : (pvL p1 (.slice none 0 0)).all Value.oneCell' = true := pvL_one rfl
 have Bd4 := Bd.keep F4 (by simp)
 (repeat (first | refine st ?_ | refine σa ?_ | (refine σb ?_; simp (disch := omega) only [push_cast, ↓reduceIte, reduceCtorEq, ν1, ν2, ν3, ν4, ν5, ζ1, ζ2, ζ3, ζ4, ζ5, pvL_len, pvL_ld, one1, mem2E, List.drop_nil, List.append_nil, memE, boxE, boxE, buildE, lsE])))
 have P5 := Fr.push M4 (.box (pvL p1 (.slice none 0 0)))
 have A5 := At.push M4 (.box (pvL p1 (.slice none 0 0)))
 obtain ⟨a, ha⟩ : ∃ a, a = M4.length := ⟨_, rfl⟩
 rw [← ha] at A5 ⊢
 have Ac5 := (Ac.keep F4 (by simp)).keep P5 (by simp)
 have Bd5 := Bd4.keep P5 (by simp)
 have hsa : s + 1 < a := by rw [ha]; exact Bd4.lt
 generalize M4 ++ [Blk.box (pvL p1 (.slice none 0 0))] = M5 at *
 simp (disch := omega) only [push_cast, ↓reduceIte, reduceCtorEq, Nat.reduceAdd, Nat.reduceMul, Nat.reduceLeDiff, Nat.reduceLT, Nat.reduceSub, Int.reduceNe, Int.reduceEq, Int.reduceLE, Int.reduceLT, Int.reduceToNat, Bd5.ld, cfL_ld, buildE]
 (repeat (first | refine st ?_ | refine σa ?_ | (refine σb ?_; simp (disch := omega) only [push_cast, ↓reduceIte, reduceCtorEq, ν1, ν2, ν3, ν4, ν5, ζ1, ζ2, ζ3, ζ4, ζ5, Bd5.ld, cfL_ld, buildE, lsE])))
 refine (pnew_spec dd M5).mono ?_
 rintro r M6 ⟨F6, rfl⟩
 obtain ⟨p2, n2, hn2⟩ : ∃ p2 n2, newP dd = (p2, n2) := ⟨_, _, rfl⟩
 have hr2 : n2 = 0 → rightC dd ∧ p2 = freshP dd 1 := by
  intro h
  unfold newP at hn2
  split at hn2
  ·rename_i hr; exact ⟨hr, (congrArg Prod.fst hn2).symm⟩
  ·have := congrArg Prod.snd hn2; simp at this; omega
 rw [hn2]
 have one2 : (pvL p2 (.slice none 0 0)).all Value.oneCell' = true := pvL_one rfl
 have P7 := Fr.push M6 (.box (pvL p2 (.slice none 0 0)))
 have B7 := At.push M6 (.box (pvL p2 (.slice none 0 0)))
 have A7 := (A5.keep F6 (by simp)).keep P7 (by simp)
 have Ac7 := (Ac5.keep F6 (by simp)).keep P7 (by simp)
 have Bd7 := (Bd5.keep F6 (by simp)).keep P7 (by simp)
 have hb6 : a < M6.length := (A5.keep F6 (by simp)).lt
 by_cases z1 : n1 = 0
 rotate_left
 ·have e1 : decide (n1 = 0) = false := decide_eq_false z1
  (repeat (first | refine st ?_ | refine σa ?_ | (refine σb ?_; simp (disch := omega) only [push_cast, ↓reduceIte, reduceCtorEq, ν1, ν2, ν3, ν4, ν5, ζ1, ζ2, ζ3, ζ4, ζ5, pvL_len, pvL_ld, one2, mem2E, e1, Bool.not_true, Bool.not_false, List.drop_nil, List.append_nil, memE, boxE, boxE, buildE, lsE])))
  ((first | refine retA.ret (by rfl) ?_ | refine retA.normal (by rfl) ?_); simp (disch := omega) only [push_cast, ↓reduceIte, reduceCtorEq, Nat.reduceAdd, Nat.reduceMul, Nat.reduceLeDiff, Nat.reduceLT, Nat.reduceSub, Int.reduceNe, Int.reduceEq, Int.reduceLE, Int.reduceLT, Int.reduceToNat])
 have e1 : decide (n1 = 0) = true := decide_eq_true z1
 by_cases z2 : n2 = 0
 rotate_left
 ·have e2 : decide (n2 = 0) = false := decide_eq_false z2
  (repeat (first | refine st ?_ | refine σa ?_ | (refine σb ?_; simp (disch := omega) only [push_cast, ↓reduceIte, reduceCtorEq, ν1, ν2, ν3, ν4, ν5, ζ1, ζ2, ζ3, ζ4, ζ5, pvL_len, pvL_ld, one2, mem2E, e1, e2, Bool.not_true, Bool.not_false, List.drop_nil, List.append_nil, memE, boxE, boxE, buildE, lsE])))
  ((first | refine retA.ret (by rfl) ?_ | refine retA.normal (by rfl) ?_); simp (disch := omega) only [push_cast, ↓reduceIte, reduceCtorEq, Nat.reduceAdd, Nat.reduceMul, Nat.reduceLeDiff, Nat.reduceLT, Nat.reduceSub, Int.reduceNe, Int.reduceEq, Int.reduceLE, Int.reduceLT, Int.reduceToNat])
 have e2 : decide (n2 = 0) = true := decide_eq_true z2
 obtain ⟨rc, rfl⟩ := hr1 z1
 obtain ⟨rd, rfl⟩ := hr2 z2
 by_cases zi : cc.id = dd.id
 ·have e3 : decide (cc.id = dd.id) = true := decide_eq_true zi
  (repeat (first | refine st ?_ | refine σa ?_ | (refine σb ?_; simp (disch := omega) only [push_cast, ↓reduceIte, reduceCtorEq, ν1, ν2, ν3, ν4, ν5, ζ1, ζ2, ζ3, ζ4, ζ5, pvL_len, pvL_ld, cfL_ld, one2, mem2E, e1, e2, e3, Ac7.ld, Bd7.ld, Bool.not_true, Bool.not_false, List.drop_nil, List.append_nil, memE, boxE, boxE, buildE, lsE])))
  ((first | refine retA.ret (by rfl) ?_ | refine retA.normal (by rfl) ?_); simp (disch := omega) only [push_cast, ↓reduceIte, reduceCtorEq, Nat.reduceAdd, Nat.reduceMul, Nat.reduceLeDiff, Nat.reduceLT, Nat.reduceSub, Int.reduceNe, Int.reduceEq, Int.reduceLE, Int.reduceLT, Int.reduceToNat])
 have e3 : decide (cc.id = dd.id) = false := decide_eq_false zi
 (repeat (first | refine st ?_ | refine σa ?_ | (refine σb ?_; simp (disch := omega) only [push_cast, ↓reduceIte, reduceCtorEq, ν1, ν2, ν3, ν4, ν5, ζ1, ζ2, ζ3, ζ4, ζ5, pvL_len, pvL_ld, cfL_ld, one2, mem2E, e1, e2, e3, A7.ld, Ac7.ld, Bd7.ld, Bool.not_true, Bool.not_false, List.drop_nil, List.append_nil, memE, boxE, boxE, buildE, lsE])))
 obtain ⟨b, hb⟩ : ∃ b, b = M6.length := ⟨_, rfl⟩
 rw [← hb] at B7 hb6 ⊢
 have hab : a ≠ b := by omega
 have T7 : TwoP (M6 ++ [.box (pvL (freshP dd 1) (.slice none 0 0))]) a b (freshP cc 1) (freshP dd 1) (.slice none 0 0) (.slice none 0 0) := ⟨hab, A7, B7, Sl.nil _ (by omega), Sl.nil _ (by omega), by simp [blkOf], by simp [blkOf]⟩
 generalize M6 ++ [Blk.box (pvL (freshP dd 1) (.slice none 0 0))] = M7 at *
 have ec : startP (freshP cc 1) = ⟨freshP cc 2, metB cc 0, []⟩ := by unfold startP; rw [if_pos ⟨rc, rfl⟩]; rfl
 have ed : startP (freshP dd 1) = ⟨freshP dd 2, metB dd 0, []⟩ := by unfold startP; rw [if_pos ⟨rd, rfl⟩]; rfl
 refine pstartK (q := freshP cc 1) (vb := .slice none 0 0) T7.su (by show 0 ≤ 1000000; omega) u1 u2 ec fun M8 w8 o8 f8 hw8 ho8 k8 l8 => ?_
 have hl7 := T7.B.lt
 have hl7a := T7.A.lt
 have nil7 : ∀ z ∈ blkOf (.slice none 0 0), z ≠ a ∧ z ≠ b := by simp [blkOf]
 have J7 : MeetJ M7 s a b cc dd (freshP cc 1) (freshP dd 1) (.slice none 0 0) (.slice none 0 0) (.slice none 0 0) (.slice none 0 0) [] [] := ⟨T7, Ac7, Bd7, Sl.nil _ (by omega), Sl.nil _ (by omega), nil7, nil7⟩
 have J8 := J7.keep f8
 have J9 := J8.setA hsa hw8 (fun z hz => by have := k8 z hz; omega) ho8 (fun z hz => by have := l8 z hz; omega)
 dsimp only at J9
 have one8 : (pvL (freshP cc 2) w8).all Value.oneCell' = true := pvL_one hw8.isSl
 (repeat (first | refine st ?_ | refine σa ?_ | (refine σb ?_; simp (disch := omega) only [push_cast, ↓reduceIte, reduceCtorEq, ν1, ν2, ν3, ν4, ν5, ζ1, ζ2, ζ3, ζ4, ζ5, pvL_len, pvL_drop, pvL_ld, one8, J8.two.A.get, J8.two.A.same, J9.two.B.ld, List.drop_nil, List.append_nil, boxE, buildE, lsE])))
 have hl9 : (M8.set a (.box (pvL (freshP cc 2) w8))).length = M8.length := List.length_set
 have hl8 := f8.1
 generalize M8.set a (.box (pvL (freshP cc 2) w8)) = M9 at *
 refine pstartK (q := freshP dd 1) (vb := .slice none 0 0) J9.two.sw (by show 0 ≤ 1000000; omega) u3 u4 ed fun M10 w10 o10 f10 hw10 ho10 k10 l10 => ?_
 have J10 := J9.keep f10
 have hsb : s + 1 < b := by omega
 have J11 := J10.setB hsb hw10 (fun z hz => by have := k10 z hz; omega) ho10 (fun z hz => by have := l10 z hz; omega)
 have one10 : (pvL (freshP dd 2) w10).all Value.oneCell' = true := pvL_one hw10.isSl
 dsimp only at J11
 (repeat (first | refine st ?_ | refine σa ?_ | (refine σb ?_; simp (disch := omega) only [push_cast, ↓reduceIte, reduceCtorEq, ν1, ν2, ν3, ν4, ν5, ζ1, ζ2, ζ3, ζ4, ζ5, pvL_len, pvL_drop, pvL_ld, one10, J10.two.B.get, J10.two.B.same, List.drop_nil, List.append_nil, boxE, buildE, lsE])))
 generalize M10.set b (.box (pvL (freshP dd 2) w10)) = M11 at *
 have zi' : dd.id ≠ cc.id := fun e => zi e.symm
 refine AW.loopF [11, 12, 13, 14, 57, 58, 59, 60, 61, 62, 63, 64, 65, 66, 67, 68, 69, 70, 71, 72, 73, 74, 75] (fun n g M' => ∃ i : Nat, g 57 = .int .i64 (i : Int) ∧ ∃ x, g 11 = x ∧ ∃ y, g 12 = y ∧ n = 3 - i ∧ i ≤ 3 ∧ ∃ u w, MeetJ M' s a b cc dd (metP cc dd i) (metP dd cc i) u w x y (metB cc i) (metB dd i)) 3 ?_ ?_
 ·exact ⟨0, rfl, o8, rfl, o10, rfl, rfl, by omega, w8, w10, J11⟩
 rintro n g MA ⟨i, h57, x, h11, y, h12, rfl, hi, u, w, J⟩
 simp (disch := omega) only [push_cast, ↓reduceIte, reduceCtorEq, Nat.reduceAdd, Nat.reduceMul, Nat.reduceLeDiff, Nat.reduceLT, Nat.reduceSub, Int.reduceNe, Int.reduceEq, Int.reduceLE, Int.reduceLT, Int.reduceToNat, h57, h11, h12]
 have bu : ∀ i, bytesL (metP cc dd i).buf := fun i => by rw [metP_buf]; intro x hx; cases hx
 have bw : ∀ i, bytesL (metP dd cc i).buf := fun i => by rw [metP_buf]; intro x hx; cases hx
 have lu : ∀ i, (metP cc dd i).buf.length = 0 := fun i => by rw [metP_buf]; rfl
 have lw : ∀ i, (metP dd cc i).buf.length = 0 := fun i => by rw [metP_buf]; rfl
 by_cases ci : i < 3
 ·have dl : decide ((i : Int) < 3) = true := decide_eq_true (by omega)
  have wi : IntKind.i64.wrap ((i : Int) + 1) = i + 1 := w_i64 (by omega) (by omega)
  (repeat (first | refine st ?_ | refine σa ?_ | (refine σb ?_; simp (disch := omega) only [push_cast, ↓reduceIte, reduceCtorEq, ν1, ν2, ν3, ν4, ν5, ζ1, ζ2, ζ3, ζ4, ζ5, dl, J.two.A.ld, pvL_ld, buildE, lsE])))
  obtain ⟨e4, hf⟩ := met_step rc rd g5 zi' u3 u4 ci
  obtain ⟨e5, hg⟩ := met_step rd rc g6 zi u1 u2 ci
  have m1 := metB_len dd u3 u4 i
  have m2 := metB_len cc u1 u2 i
  refine pfeedK (q := metP cc dd i) (vb := u) (bs := metB dd i) J.two.su J.sy (bu i) (metB_byte u3 u4 rd i) (by rw [lu]; omega) hf fun MB uB oB eB wsB fB hB kB => ?_
  have la := J.two.A.lt
  have lb := J.two.B.lt
  have oneB : (pvL (metP cc dd (i + 1)) uB).all Value.oneCell' = true := pvL_one hB.buf.isSl
  have JB := J.keep fB
  have fs := Fr.set MB a (.box (pvL (metP cc dd (i + 1)) uB))
  have hx1 := JB.sx.keep fs (fun z hz hz' => (JB.xb z hz).1 (by simpa using hz'))
  have J1 := JB.setA hsa hB.buf (fun z hz => by have := kB z (.inl hz); omega) hB.out (fun z hz => by have := kB z (.inr (.inl hz)); omega)
  dsimp only at J1
  have lB := fB.1
  have l1 : (MB.set a (.box (pvL (metP cc dd (i + 1)) uB))).length = MB.length := List.length_set
  (repeat (first | refine st ?_ | refine σa ?_ | (refine σb ?_; simp (disch := omega) only [push_cast, ↓reduceIte, reduceCtorEq, ν1, ν2, ν3, ν4, ν5, ζ1, ζ2, ζ3, ζ4, ζ5, pvL_len, pvL_drop, pvL_ld, oneB, JB.two.A.get, JB.two.A.same, J1.two.B.ld, List.drop_nil, List.append_nil, boxE, buildE, lsE])))
  generalize MB.set a (.box (pvL (metP cc dd (i + 1)) uB)) = M1' at *
  refine pfeedK (q := metP dd cc i) (vb := w) (bs := metB cc i) J1.two.sw hx1 (bw i) (metB_byte u1 u2 rc i) (by rw [lw]; omega) hg fun MC wC oC eC wsC fC hC kC => ?_
  have oneC : (pvL (metP dd cc (i + 1)) wC).all Value.oneCell' = true := pvL_one hC.buf.isSl
  have JC := J1.keep fC
  have J2 := JC.setB hsb hC.buf (fun z hz => by have := kC z (.inl hz); omega) hC.out (fun z hz => by have := kC z (.inr (.inl hz)); omega)
  dsimp only at J2
  (repeat (first | refine st ?_ | refine σa ?_ | (refine σb ?_; simp (disch := omega) only [push_cast, ↓reduceIte, reduceCtorEq, ν1, ν2, ν3, ν4, ν5, ζ1, ζ2, ζ3, ζ4, ζ5, pvL_len, pvL_drop, pvL_ld, oneC, JC.two.B.get, JC.two.B.same, wi, List.drop_nil, List.append_nil, boxE, buildE, lsE])))
  exact ⟨rfl, 3 - (i + 1), by omega, i + 1, by push_cast; rfl, rfl, by omega, uB, wC, J2⟩
 have dl : decide ((i : Int) < 3) = false := decide_eq_false (by omega)
 obtain rfl : i = 3 := by omega
 have J3 : MeetJ MA s a b cc dd (heardP cc dd 4) (heardP dd cc 4) u w x y [] [] := J
 obtain ⟨H, hH⟩ : ∃ H, H = min cc.hold dd.hold := ⟨_, rfl⟩
 have hm := hold_min rc rd
 rw [← hH] at hm
 have hcm : min dd.hold cc.hold = H := by rw [hH]; omega
 have s1 : (heardP cc dd 4).state = 4 := rfl
 have s2 : (heardP dd cc 4).state = 4 := rfl
 have s3 : (heardP cc dd 4).hold = H := hH.symm
 have s4 : (heardP dd cc 4).hold = H := hcm
 have s5 : (heardP cc dd 4).id = dd.id := rfl
 have s6 : (heardP dd cc 4).id = cc.id := rfl
 have q1 : decide ((4 : Int) = 4) = true := rfl
 have q2 : decide (H = H) = true := decide_eq_true rfl
 have q3 : decide (dd.id = dd.id) = true := decide_eq_true rfl
 have q4 : decide (cc.id = cc.id) = true := decide_eq_true rfl
 have ix := J3.sx.isSl
 have iy := J3.sy.isSl
 have nx : ((sln x : Nat) : Int) = 0 := by have := J3.sx.lnI; simpa using this
 have ny : ((sln y : Nat) : Int) = 0 := by have := J3.sy.lnI; simpa using this
 have w00 : IntKind.i64.wrap (0 + 0) = 0 := rfl
 have q5 : decide ((0 : Int) > 0) = false := rfl
 have hd3 : H.tdiv 3 = H / 3 := Int.tdiv_eq_ediv_of_nonneg (by omega)
 have wq : IntKind.i64.wrap (H.tdiv 3) = H.tdiv 3 := w_i64 (by omega) (by omega)
 have hmx : (if H.tdiv 3 > 1 then H.tdiv 3 else 1) = tickN H := by unfold tickN; split <;> omega
 obtain ⟨K, hK⟩ : ∃ K : Nat, times.tmod 9 = K := ⟨(times.tmod 9).toNat, by rw [Int.tmod_eq_emod_of_nonneg ht0]; omega⟩
 have hK9 : K < 9 := by rw [Int.tmod_eq_emod_of_nonneg ht0] at hK; omega
 (repeat (first | refine st ?_ | refine σa ?_ | (refine σb ?_; simp (disch := omega) only [push_cast, ↓reduceIte, reduceCtorEq, ν1, ν2, ν3, ν4, ν5, ζ1, ζ2, ζ3, ζ4, ζ5, dl, J3.two.A.ld, J3.two.B.ld, J3.C.ld, J3.D.ld, pvL_ld, cfL_ld, s1, s2, s3, s4, s5, s6, q1, q2, q3, q4, ix, iy, nx, ny, w00, q5, wq, hmx, hK, Bool.not_true, Bool.not_false, buildE, lsE])))
 refine AW.loopF [11, 12, 119, 120, 121, 122, 123, 124, 125, 126, 127, 128, 129, 130, 131, 132, 133, 134, 135, 136, 137, 138, 139, 140, 141, 142, 143, 144, 145, 146, 147, 148, 149] (fun n g M' => ∃ i : Nat, g 119 = .int .u8 (i : Int) ∧ ∃ x, g 11 = x ∧ ∃ y, g 12 = y ∧ n = K - i ∧ i ≤ K ∧ ∃ u w xs ys, MeetJ M' s a b cc dd (heardP cc dd 4) (heardP dd cc 4) u w x y xs ys) K ?_ ?_
 ·exact ⟨0, rfl, x, rfl, y, rfl, rfl, by omega, u, w, [], [], J3⟩
 rintro n g MA ⟨i, h119, x, h11, y, h12, rfl, hi, u, w, xs, ys, J⟩
 simp (disch := omega) only [push_cast, ↓reduceIte, reduceCtorEq, Nat.reduceAdd, Nat.reduceMul, Nat.reduceLeDiff, Nat.reduceLT, Nat.reduceSub, Int.reduceNe, Int.reduceEq, Int.reduceLE, Int.reduceLT, Int.reduceToNat, h119, h11, h12]
 by_cases ci : i < K
 rotate_left
 ·have dl : decide ((i : Int) < (K : Int)) = false := decide_eq_false (by omega)
  (repeat (first | refine st ?_ | refine σa ?_ | (refine σb ?_; simp (disch := omega) only [push_cast, ↓reduceIte, reduceCtorEq, ν1, ν2, ν3, ν4, ν5, ζ1, ζ2, ζ3, ζ4, ζ5, dl, J.two.A.ld, J.two.B.ld, pvL_ld, s1, s2, q1, buildE, lsE])))
  ((first | refine retA.ret (by rfl) ?_ | refine retA.normal (by rfl) ?_); simp (disch := omega) only [push_cast, ↓reduceIte, reduceCtorEq, Nat.reduceAdd, Nat.reduceMul, Nat.reduceLeDiff, Nat.reduceLT, Nat.reduceSub, Int.reduceNe, Int.reduceEq, Int.reduceLE, Int.reduceLT, Int.reduceToNat])
 have dl : decide ((i : Int) < (K : Int)) = true := decide_eq_true (by omega)
 have wi : IntKind.u8.wrap ((i : Int) + 1) = i + 1 := by rw [wm_u8]; omega
 (repeat (first | refine st ?_ | refine σa ?_ | (refine σb ?_; simp (disch := omega) only [push_cast, ↓reduceIte, reduceCtorEq, ν1, ν2, ν3, ν4, ν5, ζ1, ζ2, ζ3, ζ4, ζ5, dl, J.two.A.ld, pvL_ld, buildE, lsE])))
 have lta := J.two.A.lt
 have ltb := J.two.B.lt
 have k1 : tickP (heardP cc dd 4) (tickN H) = ⟨tickedP cc dd, tickOut H, []⟩ := by rw [hH]; exact tick_up rc rd
 have k2 : tickP (heardP dd cc 4) (tickN H) = ⟨tickedP dd cc, tickOut H, []⟩ := by rw [← hcm]; exact tick_up rd rc
 have k3 : feedP (tickedP cc dd) (tickOut H) = ⟨heardP cc dd 4, [], []⟩ := by rw [hH]; exact tick_heard rc rd
 have k4 : feedP (tickedP dd cc) (tickOut H) = ⟨heardP dd cc 4, [], []⟩ := by rw [← hcm]; exact tick_heard rd rc
 have tb1 : (tickedP cc dd).buf = [] := by unfold tickedP; split <;> rfl
 have tb2 : (tickedP dd cc).buf = [] := by unfold tickedP; split <;> rfl
 have tby : bytesL (tickOut H) := by unfold tickOut; split; (intro x hx; cases hx); exact putM_byteL good_alive (Prod.ext rfl put_alive)
 have tln : (tickOut H).length ≤ 4096 := by unfold tickOut; split; exact Nat.zero_le _; exact putM_bytes good_alive
 refine ptickK (q := heardP cc dd 4) (vb := u) (n := tickN H) J.two.su (by show 0 ≤ 1000000; omega) (by rw [s3]; omega) k1 fun MB uB oB eB wsB fB hB kB => ?_
 have oneB : (pvL (tickedP cc dd) uB).all Value.oneCell' = true := pvL_one hB.buf.isSl
 have JB := J.keep fB
 have J1 := JB.setA hsa hB.buf (fun z hz => by have := kB z (.inl hz); omega) hB.out (fun z hz => by have := kB z (.inr (.inl hz)); omega)
 dsimp only at J1
 have lB := fB.1
 have l1 : (MB.set a (.box (pvL (tickedP cc dd) uB))).length = MB.length := List.length_set
 (repeat (first | refine st ?_ | refine σa ?_ | (refine σb ?_; simp (disch := omega) only [push_cast, ↓reduceIte, reduceCtorEq, ν1, ν2, ν3, ν4, ν5, ζ1, ζ2, ζ3, ζ4, ζ5, pvL_len, pvL_drop, pvL_ld, oneB, JB.two.A.get, JB.two.A.same, J1.two.B.ld, List.drop_nil, List.append_nil, boxE, buildE, lsE])))
 generalize MB.set a (.box (pvL (tickedP cc dd) uB)) = M1' at *
 refine ptickK (q := heardP dd cc 4) (vb := w) (n := tickN H) J1.two.sw (by show 0 ≤ 1000000; omega) (by rw [s4]; omega) k2 fun MC wC oC eC wsC fC hC kC => ?_
 have oneC : (pvL (tickedP dd cc) wC).all Value.oneCell' = true := pvL_one hC.buf.isSl
 have JC := J1.keep fC
 have J2 := JC.setB hsb hC.buf (fun z hz => by have := kC z (.inl hz); omega) hC.out (fun z hz => by have := kC z (.inr (.inl hz)); omega)
 dsimp only at J2
 have lC := fC.1
 have l2 : (MC.set b (.box (pvL (tickedP dd cc) wC))).length = MC.length := List.length_set
 (repeat (first | refine st ?_ | refine σa ?_ | (refine σb ?_; simp (disch := omega) only [push_cast, ↓reduceIte, reduceCtorEq, ν1, ν2, ν3, ν4, ν5, ζ1, ζ2, ζ3, ζ4, ζ5, pvL_len, pvL_drop, pvL_ld, oneC, JC.two.B.get, JC.two.B.same, J2.two.A.ld, List.drop_nil, List.append_nil, boxE, buildE, lsE])))
 generalize MC.set b (.box (pvL (tickedP dd cc) wC)) = M2' at *
 refine pfeedK (q := tickedP cc dd) (vb := uB) (bs := tickOut H) J2.two.su J2.sy (by rw [tb1]; intro x hx; cases hx) tby (by rw [tb1]; show 0 + _ ≤ _; omega) k3 fun MD uD oD eD wsD fD hD kD => ?_
 have oneD : (pvL (heardP cc dd 4) uD).all Value.oneCell' = true := pvL_one hD.buf.isSl
 have JD := J2.keep fD
 have fs3 := Fr.set MD a (.box (pvL (heardP cc dd 4) uD))
 have J3' := JD.setA hsa hD.buf (fun z hz => by have := kD z (.inl hz); omega) JD.sx JD.xb
 dsimp only at J3'
 have lD := fD.1
 have l3 : (MD.set a (.box (pvL (heardP cc dd 4) uD))).length = MD.length := List.length_set
 (repeat (first | refine st ?_ | refine σa ?_ | (refine σb ?_; simp (disch := omega) only [push_cast, ↓reduceIte, reduceCtorEq, ν1, ν2, ν3, ν4, ν5, ζ1, ζ2, ζ3, ζ4, ζ5, pvL_len, pvL_drop, pvL_ld, oneD, JD.two.A.get, JD.two.A.same, J3'.two.B.ld, List.drop_nil, List.append_nil, boxE, buildE, lsE])))
 generalize MD.set a (.box (pvL (heardP cc dd 4) uD)) = M3' at *
 refine pfeedK (q := tickedP dd cc) (vb := wC) (bs := tickOut H) J3'.two.sw J3'.sx (by rw [tb2]; intro x hx; cases hx) tby (by rw [tb2]; show 0 + _ ≤ _; omega) k4 fun ME wE oE eE wsE fE hE kE => ?_
 have oneE : (pvL (heardP dd cc 4) wE).all Value.oneCell' = true := pvL_one hE.buf.isSl
 have JE := J3'.keep fE
 have J4' := JE.setB hsb hE.buf (fun z hz => by have := kE z (.inl hz); omega) JE.sy JE.yb
 dsimp only at J4'
 (repeat (first | refine st ?_ | refine σa ?_ | (refine σb ?_; simp (disch := omega) only [push_cast, ↓reduceIte, reduceCtorEq, ν1, ν2, ν3, ν4, ν5, ζ1, ζ2, ζ3, ζ4, ζ5, pvL_len, pvL_drop, pvL_ld, oneE, JE.two.B.get, JE.two.B.same, wi, List.drop_nil, List.append_nil, boxE, buildE, lsE])))
 exact ⟨rfl, K - (i + 1), by omega, i + 1, by push_cast; rfl, rfl, by omega, uD, wE, _, _, J4'⟩
end Go.Proofs.Ytbdejnnbpdgjlaa.Ax
