/- Contracts of functions over the abstract machine. No conditions: lemmas alone. -/
import Derived.Test.YtbdejnnbpdgjlaaMsgXLibD
import Derived.Test.YtbdejnnbpdgjlaaMsgXP0
import Derived.Test.YtbdejnnbpdgjlaaMsgXP21
import Derived.Test.YtbdejnnbpdgjlaaMsgXP23
import Derived.Test.YtbdejnnbpdgjlaaMsgXP14
import Derived.Test.YtbdejnnbpdgjlaaMsgXP15
import Derived.Test.YtbdejnnbpdgjlaaMsgXP19
namespace Go.Proofs.Ytbdejnnbpdgjlaa.Ax
open Go Go.RowKit
open Nat renaming reduceAdd → ν1, reduceMul → ν2, reduceLeDiff → ν3, reduceLT → ν4, reduceSub → ν5
open Int renaming reduceNe → ζ1, reduceEq → ζ2, reduceLE → ζ3, reduceLT → ζ4, reduceToNat → ζ5
set_option linter.unusedVariables false
set_option linter.unusedSimpArgs false
set_option maxRecDepth 100000
set_option maxHeartbeats 20000000
attribute [local irreducible] thenA blockA scopeA retA AL AW AD ADL AH clrK CallA apure aload bload appK ptrK fnK ares szOk planOk okOps
/-- An append to nothing. -/
theorem appB0 {M : Mem} {v : Value} {xs : List Int} {C : Value → Mem → Prop} (hv : Sl M v 1 (ints .u8 xs)) (hl : xs.length ≤ 100000000) (h : ∀ v' M', New M M' v' 1 (ints .u8 xs) → Fr M M' [] → C v' M') : appK Try.prog 39 39 (.slice (some ⟨M.length, 0, none⟩) 0 0) v (M ++ [.row true 1 []]) C := by
  have r0 := New.row M (s := 1) (n := 0) (cs := []) (by omega) rfl rfl (by decide)
  refine appK.ints (P := Try.prog) (e := 5) (bt := 1) (z := .int .u8 0) (by kernel_rfl) (by kernel_rfl) (by kernel_rfl) (by kernel_rfl) (by decide) (xs := []) r0.1 (hv.keep (Fr.push M (.row true 1 [])) (by simp)) (by simp; omega) ?_
  intro v' M' hN hF
  rw [List.nil_append] at hN
  exact h v' M' (hN.after (Fr.push M (.row true 1 []))) ((Fr.push M (.row true 1 [])).tr hF)
theorem appB1 {M M1 : Mem} {v w : Value} {xs ys : List Int} {C : Value → Mem → Prop} (hN : New M M1 v 1 (ints .u8 xs)) (hF : Fr M M1 []) (hw : Sl M1 w 1 (ints .u8 ys)) (hl : xs.length + ys.length ≤ 100000000) (h : ∀ v' M', New M M' v' 1 (ints .u8 (xs ++ ys)) → Fr M M' [] → C v' M') : appK Try.prog 39 39 v w M1 C := by
  refine appK.ints (P := Try.prog) (e := 5) (bt := 1) (z := .int .u8 0) (by kernel_rfl) (by kernel_rfl) (by kernel_rfl) (by kernel_rfl) (by decide) hN.1 hw (by omega) ?_
  intro v' M' hN2 hF2
  exact h v' M' (hN2.after hF) (hF.new hN hF2)
/-- Equations of the last box, by the number of the one ahead of it. -/
theorem mem2E : (∀ (P : Program) (ty : TypeId) (M : Mem) (X Y : Blk) (j : Nat), aload P ty (M ++ [X] ++ [Y]) (M.length + 1) j = bload P ty Y.cells j) ∧ (∀ (M : Mem) (X Y : Blk), (M ++ [X] ++ [Y])[M.length + 1]? = some Y) ∧ (∀ (M : Mem) (X Y B : Blk), (M ++ [X] ++ [Y]).set (M.length + 1) B = M ++ [X] ++ [B]) ∧ (∀ (M : Mem) (X : Blk), (M ++ [X]).length = M.length + 1) := by
  refine ⟨fun P ty M X Y j => ?_, fun M X Y => ?_, fun M X Y B => ?_, fun M X => by simp⟩
  · have := ld_one P ty (M ++ [X]) Y j
    rwa [List.length_append, List.length_singleton] at this
  · have := push_get (M ++ [X]) Y
    rwa [List.length_append, List.length_singleton] at this
  · have := set_push (M ++ [X]) Y B
    rwa [List.length_append, List.length_singleton] at this
theorem mvL_len (m : MV) (g a c nw d : Value) : (mvL m g a c nw d).length = 17 := rfl
theorem mvL_one {m : MV} {g a c nw d : Value} (h : isSl g = true ∧ isSl a = true ∧ isSl c = true ∧ isSl nw = true ∧ isSl d = true) : (mvL m g a c nw d).all Value.oneCell' = true := by
  obtain ⟨h1, h2, h3, h4, h5⟩ := h
  have o1 := isSl_one h1
  have o2 := isSl_one h2
  have o3 := isSl_one h3
  have o4 := isSl_one h4
  have o5 := isSl_one h5
  simp [mvL, o1, o2, o3, o4, o5]
  simp [Value.oneCell']
theorem mreadK {v : Value} {xs : List Int} {M : Mem} {m : MV} {n f1 f2 : Int} {K : Value → Mem → Prop} (hv : Sl M v 1 (ints .u8 xs)) (hx : xs.length ≤ 10000000) (hb : ∀ x ∈ xs, 0 ≤ x ∧ x ≤ 255) (h : readM xs = (m, n, (f1, f2)))
    (hK : ∀ M' g a c nw d, Fr M M' [] → MVin M' m g a c nw d → (mvL m g a c nw d).all Value.oneCell' = true → (isSl g = true ∧ isSl a = true ∧ isSl c = true ∧ isSl nw = true ∧ isSl d = true) → (∀ b ∈ blkOf g ++ (blkOf a ++ (blkOf c ++ (blkOf nw ++ blkOf d))), M.length ≤ b) → K (.tuple ⟨[.agg ⟨mvL m g a c nw d⟩, .int .i64 n, .agg ⟨[.int .i64 f1, .int .i64 f2]⟩]⟩) M') : CallA Try.prog 18 [v] M K := by
  refine (mread_spec v xs M hv hb hx).mono ?_
  rintro r M' ⟨hF, g, a, c, nw, d, rfl, hi, hin, hbk⟩
  rw [h] at hin ⊢
  exact hK M' g a c nw d hF hin (mvL_one hi) hi hbk
theorem mputK {M : Mem} {m : MV} {g a c nw d : Value} {bs : List Int} {e : Int} {K : Value → Mem → Prop} (hi : MVin M m g a c nw d) (hg : goodM m) (hz : sizeM m) (h : putM m = (bs, e))
    (hK : ∀ M' w, Fr M M' [] → New M M' w 1 (ints .u8 bs) → K (.tuple ⟨[w, .int .i64 e]⟩) M') : CallA Try.prog 24 [.agg ⟨mvL m g a c nw d⟩] M K := by
  refine (msgput_spec m g a c nw d M hi hg hz).mono ?_
  rintro r M' ⟨hF, w, rfl, hN⟩
  rw [h] at hN ⊢
  exact hK M' w hF hN
theorem MVin.nils (M : Mem) {m : MV} (h : m.gone = [] ∧ m.attrs.path = [] ∧ m.attrs.comms = [] ∧ m.new = [] ∧ m.data = []) : MVin M m (.slice none 0 0) (.slice none 0 0) (.slice none 0 0) (.slice none 0 0) (.slice none 0 0) := by
  obtain ⟨h1, h2, h3, h4, h5⟩ := h
  exact ⟨by rw [h1]; exact Sl.nil _ (by omega), by rw [h2]; exact Sl.nil _ (by omega), by rw [h3]; exact Sl.nil _ (by omega), by rw [h4]; exact Sl.nil _ (by omega), by rw [h5]; exact Sl.nil _ (by omega)⟩
def msg4 : MV := { MV.zero with kind := 4 }
theorem good4 : goodM msg4 := by simp [goodM, msg4, MV.zero, goodAV, AV.zero, u32]
theorem size4 : sizeM msg4 := by simp [sizeM, msg4, MV.zero, AV.zero]
theorem put4 : putM msg4 = (List.replicate 16 255 ++ [0, 19, 4], 0) := by
  have hr : rightM msg4 := by unfold rightM; simp [msg4]
  unfold putM
  rw [if_neg (by simp [msg4]), if_neg (by simp [hr]), if_neg (by simp [msg4, bodyB])]
  rfl
theorem alive25_spec (M : Mem) : CallA Try.prog 17 [] M fun r M' => Fr M M' [] ∧ r = .bool true := by
  have e1 : readM (List.replicate 16 255 ++ [0, 18, 4]) = (MV.zero, 0, (1, 2)) := by kernel_rfl
  have e2 : readM (List.replicate 16 255 ++ [0, 19, 5]) = (MV.zero, 0, (1, 3)) := by kernel_rfl
  have e3 : readM (List.replicate 16 255 ++ [0, 20, 4]) = (MV.zero, 0, (1, 2)) := by kernel_rfl
  have e4 : readM (List.replicate 15 255) = (MV.zero, 0, (0, 0)) := by kernel_rfl
  (refine CallA.of_body Try.func17 rfl (by rfl) ?_; simp only [Try.ntmps17, List.length_cons, List.length_nil, List.replicate, List.cons_append, List.nil_append, Nat.reduceSub, Nat.reduceAdd])
  (repeat (first | refine st ?_ | refine σa ?_ | (refine σb ?_; simp (disch := omega) only [push_cast, ↓reduceIte, reduceCtorEq, ν1, ν2, ν3, ν4, ν5, ζ1, ζ2, ζ3, ζ4, ζ5, buildE])))
  refine mputK (m := msg4) (g := .slice none 0 0) (a := .slice none 0 0) (c := .slice none 0 0) (nw := .slice none 0 0) (d := .slice none 0 0) (MVin.nils _ ⟨rfl, rfl, rfl, rfl, rfl⟩) good4 size4 put4 fun M1 w f1 n1 => ?_
  obtain ⟨L0, hL0⟩ : ∃ L, L = List.replicate 16 (255 : Int) ++ [0, 19, 4] := ⟨_, rfl⟩
  rw [← hL0] at n1
  have s1 := n1.sl.isSl
  have l1 := n1.sl.lnI
  have ll : L0.length = 19 := by rw [hL0]; rfl
  rw [ll] at l1
  have li : ((sln w : Nat) : Int) = 19 := by omega
  have i16 : (16 : Int) < 19 := by omega
  have g16 := n1.sl.ldN (P := Try.prog) (ty := 5) (i := 16) (by kernel_rfl) (by omega)
  have g17 := n1.sl.ldN (P := Try.prog) (ty := 5) (i := 17) (by kernel_rfl) (by omega)
  have g18 := n1.sl.ldN (P := Try.prog) (ty := 5) (i := 18) (by kernel_rfl) (by omega)
  have v16 : L0.getD 16 0 = 0 := by rw [hL0]; rfl
  have v17 : L0.getD 17 0 = 19 := by rw [hL0]; rfl
  have v18 : L0.getD 18 0 = 4 := by rw [hL0]; rfl
  rw [v16] at g16
  rw [v17] at g17
  rw [v18] at g18
  have d1 : decide ((0 : Int) = 0) = true := rfl
  have d2 : decide ((19 : Int) = 19) = true := rfl
  have d3 : decide ((4 : Int) = 4) = true := rfl
  (repeat (first | refine st ?_ | refine σa ?_ | (refine σb ?_; simp (disch := omega) only [push_cast, ↓reduceIte, reduceCtorEq, ν1, ν2, ν3, ν4, ν5, ζ1, ζ2, ζ3, ζ4, ζ5, s1, li, g16, g17, g18, d1, d2, d3, Bool.not_true, Bool.not_false])))
  refine appB0 n1.sl (by omega) fun u M2 n2 f2 => ?_
  have w2 := n1.sl.keep f2 (by simp)
  have F2 := f1.tr f2
  have hub := n2.blk
  have hwb := n1.sl.blks
  obtain ⟨b0, ho, hcp, pre, rfl, hget, hoff, hc0, hcap⟩ := n2.1.openI (by intro h; rw [h] at ll; simp at ll)
  rw [ll] at hcap
  have b0M : M1.length ≤ b0 := hub b0 (by simp [blkOf, hc0])
  have hM1 := f1.1
  rw [ll]
  have ta0 := splI (k := .u8) (xs := L0) hoff (i := 17) (by omega) 18
  have ua0 := roomI (k := .u8) (xs := L0) hoff (i := 17) (by omega)
  have va0 : List.take (ho + 17) (pre ++ ints .u8 L0) ++ [.int .u8 18] ++ List.drop (ho + 17 + 1) (pre ++ ints .u8 L0) = pre ++ ints .u8 (L0.set 17 18) := ta0
  (repeat (first | refine st ?_ | refine σa ?_ | (refine σb ?_; simp (disch := omega) only [push_cast, ↓reduceIte, reduceCtorEq, ν1, ν2, ν3, ν4, ν5, ζ1, ζ2, ζ3, ζ4, ζ5, hget, ta0, ua0, va0, Option.some.injEq, exists_eq_left', Blk.put, Blk.ours, Blk.cells])))
  have eLa : (L0.set 17 18) = List.replicate 16 255 ++ [0, 18, 4] := by rw [hL0]; rfl
  obtain ⟨La, hLa⟩ : ∃ L, L = List.replicate 16 (255 : Int) ++ [0, 18, 4] := ⟨_, rfl⟩
  have lla : La.length = 19 := by rw [hLa]; rfl
  rw [← hLa] at eLa e1
  rw [eLa]
  have hseta := ownI (k := .u8) (xs := La) (M := M2.set b0 (.row true 1 (pre ++ ints .u8 La))) (b := b0) (off := ho) (c := hcp) (pre := pre) (List.getElem?_set_self (List.getElem?_eq_some_iff.1 hget).1) hoff hc0 (by omega)
  have Fsa := Fr.set M2 b0 (.row true 1 (pre ++ ints .u8 La))
  have wa := w2.keep Fsa (fun b h hx => by have := hwb b h; simp at hx; omega)
  have Fa : Fr M _ [] := (F2.trans Fsa).cut (fun c hc hlt => by simp at hc; omega)
  rw [lla] at hseta
  have hba : ∀ x ∈ La, 0 ≤ x ∧ x ≤ 255 := by rw [hLa]; decide
  have hb0lt := (List.getElem?_eq_some_iff.1 hget).1
  clear hget
  refine mreadK hseta.sl (by omega) hba e1 fun Na g a c nw d fa _ oa _ _ => ?_
  (repeat (first | refine st ?_ | refine σa ?_ | (refine σb ?_; simp (disch := omega) only [push_cast, ↓reduceIte, reduceCtorEq, ν1, ν2, ν3, ν4, ν5, ζ1, ζ2, ζ3, ζ4, ζ5, mvL_len, oa, mem2E, List.drop_nil, List.append_nil, memE, boxE, boxE])))
  have Pa := Fr.push2 Na (.box (mvL MV.zero g a c nw d)) (.box [.int .i64 1, .int .i64 2])
  have Ba := At.push (Na ++ [.box (mvL MV.zero g a c nw d)]) (.box [.int .i64 1, .int .i64 2])
  have hgs : (M2.set b0 (.row true 1 (pre ++ ints .u8 La)))[b0]? = some (.row true 1 (pre ++ ints .u8 La)) := List.getElem?_set_self (by simpa using hb0lt)
  have hget := ((fa.tr Pa).2 b0 (List.getElem?_eq_some_iff.1 hgs).1 (by simp)).trans hgs
  have wa := (wa.keep fa (by simp)).keep Pa (by simp)
  have Fa := (Fa.tr fa).tr Pa
  have hb0lt := (List.getElem?_eq_some_iff.1 hget).1
  rw [List.length_append, List.length_singleton] at Ba
  generalize hbxa : Na.length + 1 = xa at *
  have hxa : b0 < xa := by rw [← hbxa]; have := (List.getElem?_eq_some_iff.1 hgs).1; have := fa.1; simp; omega
  clear hgs hseta fa Pa Fsa hbxa
  generalize Na ++ [Blk.box (mvL MV.zero g a c nw d)] ++ [Blk.box [.int .i64 1, .int .i64 2]] = Xa at *
  have tb0 := splI (k := .u8) (xs := La) hoff (i := 17) (by omega) 19
  have ub0 := roomI (k := .u8) (xs := La) hoff (i := 17) (by omega)
  have vb0 : List.take (ho + 17) (pre ++ ints .u8 La) ++ [.int .u8 19] ++ List.drop (ho + 17 + 1) (pre ++ ints .u8 La) = pre ++ ints .u8 (La.set 17 19) := tb0
  have tb1 := splI (k := .u8) (xs := (La.set 17 19)) hoff (i := 18) (by rw [List.length_set]; omega) 5
  have ub1 := roomI (k := .u8) (xs := (La.set 17 19)) hoff (i := 18) (by rw [List.length_set]; omega)
  have vb1 : List.take (ho + 18) (pre ++ ints .u8 (La.set 17 19)) ++ [.int .u8 5] ++ List.drop (ho + 18 + 1) (pre ++ ints .u8 (La.set 17 19)) = pre ++ ints .u8 ((La.set 17 19).set 18 5) := tb1
  have hgb : (Xa.set b0 (.row true 1 (pre ++ ints .u8 (La.set 17 19))))[b0]? = some (.row true 1 (pre ++ ints .u8 (La.set 17 19))) := List.getElem?_set_self (List.getElem?_eq_some_iff.1 hget).1
  simp (disch := omega) only [push_cast, ↓reduceIte, reduceCtorEq, Nat.reduceAdd, Nat.reduceMul, Nat.reduceLeDiff, Nat.reduceLT, Nat.reduceSub, Int.reduceNe, Int.reduceEq, Int.reduceLE, Int.reduceLT, Int.reduceToNat, hget, tb0, ub0, vb0, tb1, ub1, vb1, hgb, List.set_set, Option.some.injEq, exists_eq_left', Blk.put, Blk.ours, Blk.cells]
  (repeat (first | refine st ?_ | refine σa ?_ | (refine σb ?_; simp (disch := omega) only [push_cast, ↓reduceIte, reduceCtorEq, ν1, ν2, ν3, ν4, ν5, ζ1, ζ2, ζ3, ζ4, ζ5, hget, tb0, ub0, vb0, tb1, ub1, vb1, hgb, List.set_set, Option.some.injEq, exists_eq_left', Blk.put, Blk.ours, Blk.cells])))
  have eLb : ((La.set 17 19).set 18 5) = List.replicate 16 255 ++ [0, 19, 5] := by rw [hLa]; rfl
  obtain ⟨Lb, hLb⟩ : ∃ L, L = List.replicate 16 (255 : Int) ++ [0, 19, 5] := ⟨_, rfl⟩
  have llb : Lb.length = 19 := by rw [hLb]; rfl
  rw [← hLb] at eLb e2
  rw [eLb]
  have hsetb := ownI (k := .u8) (xs := Lb) (M := Xa.set b0 (.row true 1 (pre ++ ints .u8 Lb))) (b := b0) (off := ho) (c := hcp) (pre := pre) (List.getElem?_set_self (List.getElem?_eq_some_iff.1 hget).1) hoff hc0 (by omega)
  have Fsb := Fr.set Xa b0 (.row true 1 (pre ++ ints .u8 Lb))
  have wb := wa.keep Fsb (fun b h hx => by have := hwb b h; simp at hx; omega)
  have Fb : Fr M _ [] := (Fa.trans Fsb).cut (fun c hc hlt => by simp at hc; omega)
  rw [llb] at hsetb
  have Ba := Ba.keep Fsb (by simp; omega)
  have hbb : ∀ x ∈ Lb, 0 ≤ x ∧ x ≤ 255 := by rw [hLb]; decide
  have hb0lt := (List.getElem?_eq_some_iff.1 hget).1
  clear hget
  refine mreadK hsetb.sl (by omega) hbb e2 fun Nb g a c nw d fb _ ob _ _ => ?_
  (repeat (first | refine st ?_ | refine σa ?_ | (refine σb ?_; simp (disch := omega) only [push_cast, ↓reduceIte, reduceCtorEq, ν1, ν2, ν3, ν4, ν5, ζ1, ζ2, ζ3, ζ4, ζ5, mvL_len, ob, mem2E, List.drop_nil, List.append_nil, memE, boxE, boxE])))
  have Pb := Fr.push2 Nb (.box (mvL MV.zero g a c nw d)) (.box [.int .i64 1, .int .i64 3])
  have Bb := At.push (Nb ++ [.box (mvL MV.zero g a c nw d)]) (.box [.int .i64 1, .int .i64 3])
  have hgs : (Xa.set b0 (.row true 1 (pre ++ ints .u8 Lb)))[b0]? = some (.row true 1 (pre ++ ints .u8 Lb)) := List.getElem?_set_self (by simpa using hb0lt)
  have hget := ((fb.tr Pb).2 b0 (List.getElem?_eq_some_iff.1 hgs).1 (by simp)).trans hgs
  have wb := (wb.keep fb (by simp)).keep Pb (by simp)
  have Fb := (Fb.tr fb).tr Pb
  have Ba := (Ba.keep fb (by simp)).keep Pb (by simp)
  have hb0lt := (List.getElem?_eq_some_iff.1 hget).1
  rw [List.length_append, List.length_singleton] at Bb
  generalize hbxb : Nb.length + 1 = xb at *
  have hxb : b0 < xb := by rw [← hbxb]; have := (List.getElem?_eq_some_iff.1 hgs).1; have := fb.1; simp; omega
  clear hgs hsetb fb Pb Fsb hbxb
  generalize Nb ++ [Blk.box (mvL MV.zero g a c nw d)] ++ [Blk.box [.int .i64 1, .int .i64 3]] = Xb at *
  have tc0 := splI (k := .u8) (xs := Lb) hoff (i := 17) (by omega) 20
  have uc0 := roomI (k := .u8) (xs := Lb) hoff (i := 17) (by omega)
  have vc0 : List.take (ho + 17) (pre ++ ints .u8 Lb) ++ [.int .u8 20] ++ List.drop (ho + 17 + 1) (pre ++ ints .u8 Lb) = pre ++ ints .u8 (Lb.set 17 20) := tc0
  have tc1 := splI (k := .u8) (xs := (Lb.set 17 20)) hoff (i := 18) (by rw [List.length_set]; omega) 4
  have uc1 := roomI (k := .u8) (xs := (Lb.set 17 20)) hoff (i := 18) (by rw [List.length_set]; omega)
  have vc1 : List.take (ho + 18) (pre ++ ints .u8 (Lb.set 17 20)) ++ [.int .u8 4] ++ List.drop (ho + 18 + 1) (pre ++ ints .u8 (Lb.set 17 20)) = pre ++ ints .u8 ((Lb.set 17 20).set 18 4) := tc1
  have hgc : (Xb.set b0 (.row true 1 (pre ++ ints .u8 (Lb.set 17 20))))[b0]? = some (.row true 1 (pre ++ ints .u8 (Lb.set 17 20))) := List.getElem?_set_self (List.getElem?_eq_some_iff.1 hget).1
  simp (disch := omega) only [push_cast, ↓reduceIte, reduceCtorEq, Nat.reduceAdd, Nat.reduceMul, Nat.reduceLeDiff, Nat.reduceLT, Nat.reduceSub, Int.reduceNe, Int.reduceEq, Int.reduceLE, Int.reduceLT, Int.reduceToNat, hget, tc0, uc0, vc0, tc1, uc1, vc1, hgc, List.set_set, Option.some.injEq, exists_eq_left', Blk.put, Blk.ours, Blk.cells]
  (repeat (first | refine st ?_ | refine σa ?_ | (refine σb ?_; simp (disch := omega) only [push_cast, ↓reduceIte, reduceCtorEq, ν1, ν2, ν3, ν4, ν5, ζ1, ζ2, ζ3, ζ4, ζ5, hget, tc0, uc0, vc0, tc1, uc1, vc1, hgc, List.set_set, Option.some.injEq, exists_eq_left', Blk.put, Blk.ours, Blk.cells])))
  have eLc : ((Lb.set 17 20).set 18 4) = List.replicate 16 255 ++ [0, 20, 4] := by rw [hLb]; rfl
  obtain ⟨Lc, hLc⟩ : ∃ L, L = List.replicate 16 (255 : Int) ++ [0, 20, 4] := ⟨_, rfl⟩
  have llc : Lc.length = 19 := by rw [hLc]; rfl
  rw [← hLc] at eLc e3
  rw [eLc]
  have hsetc := ownI (k := .u8) (xs := Lc) (M := Xb.set b0 (.row true 1 (pre ++ ints .u8 Lc))) (b := b0) (off := ho) (c := hcp) (pre := pre) (List.getElem?_set_self (List.getElem?_eq_some_iff.1 hget).1) hoff hc0 (by omega)
  have Fsc := Fr.set Xb b0 (.row true 1 (pre ++ ints .u8 Lc))
  have wc := wb.keep Fsc (fun b h hx => by have := hwb b h; simp at hx; omega)
  have Fc : Fr M _ [] := (Fb.trans Fsc).cut (fun c hc hlt => by simp at hc; omega)
  rw [llc] at hsetc
  have Ba := Ba.keep Fsc (by simp; omega)
  have Bb := Bb.keep Fsc (by simp; omega)
  have hbc : ∀ x ∈ Lc, 0 ≤ x ∧ x ≤ 255 := by rw [hLc]; decide
  have hb0lt := (List.getElem?_eq_some_iff.1 hget).1
  clear hget
  refine mreadK hsetc.sl (by omega) hbc e3 fun Nc g a c nw d fc _ oc _ _ => ?_
  (repeat (first | refine st ?_ | refine σa ?_ | (refine σb ?_; simp (disch := omega) only [push_cast, ↓reduceIte, reduceCtorEq, ν1, ν2, ν3, ν4, ν5, ζ1, ζ2, ζ3, ζ4, ζ5, mvL_len, oc, mem2E, List.drop_nil, List.append_nil, memE, boxE, boxE])))
  have Pc := Fr.push2 Nc (.box (mvL MV.zero g a c nw d)) (.box [.int .i64 1, .int .i64 2])
  have Bc := At.push (Nc ++ [.box (mvL MV.zero g a c nw d)]) (.box [.int .i64 1, .int .i64 2])
  have hgs : (Xb.set b0 (.row true 1 (pre ++ ints .u8 Lc)))[b0]? = some (.row true 1 (pre ++ ints .u8 Lc)) := List.getElem?_set_self (by simpa using hb0lt)
  have hget := ((fc.tr Pc).2 b0 (List.getElem?_eq_some_iff.1 hgs).1 (by simp)).trans hgs
  have wc := (wc.keep fc (by simp)).keep Pc (by simp)
  have Fc := (Fc.tr fc).tr Pc
  have Ba := (Ba.keep fc (by simp)).keep Pc (by simp)
  have Bb := (Bb.keep fc (by simp)).keep Pc (by simp)
  have hb0lt := (List.getElem?_eq_some_iff.1 hget).1
  rw [List.length_append, List.length_singleton] at Bc
  generalize hbxc : Nc.length + 1 = xc at *
  have hxc : b0 < xc := by rw [← hbxc]; have := (List.getElem?_eq_some_iff.1 hgs).1; have := fc.1; simp; omega
  clear hgs hsetc fc Pc Fsc hbxc
  generalize Nc ++ [Blk.box (mvL MV.zero g a c nw d)] ++ [Blk.box [.int .i64 1, .int .i64 2]] = Xc at *
  obtain ⟨w15, h15', p15⟩ := wc.pcTo 15 (by omega)
  have h15 : aslice w 1 none (some (.int .i64 15)) none = some w15 := h15'
  have hz := wc.sz
  have e15 : L0.take 15 = List.replicate 15 255 := by rw [hL0]; rfl
  have p15s := p15.sl
  rw [e15] at p15s
  simp (disch := omega) only [push_cast, ↓reduceIte, reduceCtorEq, Nat.reduceAdd, Nat.reduceMul, Nat.reduceLeDiff, Nat.reduceLT, Nat.reduceSub, Int.reduceNe, Int.reduceEq, Int.reduceLE, Int.reduceLT, Int.reduceToNat, h15, hz, Option.map_none, Option.map_some]
  (repeat (first | refine st ?_ | refine σa ?_ | (refine σb ?_; simp (disch := omega) only [push_cast, ↓reduceIte, reduceCtorEq, ν1, ν2, ν3, ν4, ν5, ζ1, ζ2, ζ3, ζ4, ζ5, h15, hz, Option.map_none, Option.map_some])))
  refine mreadK p15s (by decide) (by decide) e4 fun Nd g a c nw d fd _ od _ _ => ?_
  have Pd := Fr.push2 Nd (.box (mvL MV.zero g a c nw d)) (.box [.int .i64 0, .int .i64 0])
  have Ba := (Ba.keep fd (by simp)).keep Pd (by simp)
  have Bb := (Bb.keep fd (by simp)).keep Pd (by simp)
  have Bc := (Bc.keep fd (by simp)).keep Pd (by simp)
  have q1 : decide ((1 : Int) = 1 ∧ (2 : Int) = 2) = true := rfl
  have q2 : decide ((1 : Int) = 1 ∧ (3 : Int) = 3) = true := rfl
  have q3 : decide ((0 : Int) = 0) = true := rfl
  have q4 : decide ((0 : Int) = 0 ∧ (0 : Int) = 0) = true := rfl
  (repeat (first | refine st ?_ | refine σa ?_ | (refine σb ?_; simp (disch := omega) only [push_cast, ↓reduceIte, reduceCtorEq, ν1, ν2, ν3, ν4, ν5, ζ1, ζ2, ζ3, ζ4, ζ5, mvL_len, od, mem2E, Ba.ld, Bb.ld, Bc.ld, ft_eq, aggB, q1, q2, q3, q4, List.drop_nil, List.append_nil, memE, boxE, boxE, buildE])))
  ((first | refine retA.ret (by rfl) ?_ | refine retA.normal (by rfl) ?_); simp (disch := omega) only [push_cast, ↓reduceIte, reduceCtorEq, Nat.reduceAdd, Nat.reduceMul, Nat.reduceLeDiff, Nat.reduceLT, Nat.reduceSub, Int.reduceNe, Int.reduceEq, Int.reduceLE, Int.reduceLT, Int.reduceToNat])
  exact (Fc.tr fd).tr Pd

end Go.Proofs.Ytbdejnnbpdgjlaa.Ax

namespace Go.Proofs.Ytbdejnnbpdgjlaa.Ax
open Go Go.RowKit
open Nat renaming reduceAdd → ν1, reduceMul → ν2, reduceLeDiff → ν3, reduceLT → ν4, reduceSub → ν5
open Int renaming reduceNe → ζ1, reduceEq → ζ2, reduceLE → ζ3, reduceLT → ζ4, reduceToNat → ζ5
set_option linter.unusedVariables false
set_option linter.unusedSimpArgs false
set_option maxRecDepth 100000
set_option maxHeartbeats 20000000
attribute [local irreducible] thenA blockA scopeA retA AL AW AD ADL AH clrK CallA apure aload bload appK ptrK fnK ares szOk planOk okOps
theorem mvfrom_spec (m : MV) (g a c nw d : Value) (M : Mem) (hi : isSl g = true ∧ isSl a = true ∧ isSl c = true ∧ isSl nw = true ∧ isSl d = true) : CallA Try.prog 21 [.agg ⟨mvL m g a c nw d⟩] M fun r M' => Fr M M' [] ∧ r = .agg ⟨mvL m g a c nw d⟩ := by
  obtain ⟨i1, i2, i3, i4, i5⟩ := hi
  have g1 := isSl_cl i1
  have g2 := isSl_cl i2
  have g3 := isSl_cl i3
  have g4 := isSl_cl i4
  have g5 := isSl_cl i5
  have o1 := isSl_one i1
  have o2 := isSl_one i2
  have o3 := isSl_one i3
  have o4 := isSl_one i4
  have o5 := isSl_one i5
  simp only [Value.oneCell'] at o1 o2 o3 o4 o5
  (refine CallA.of_body Try.func21 rfl (by rfl) ?_; simp only [Try.ntmps21, List.length_cons, List.length_nil, List.replicate, List.cons_append, List.nil_append, Nat.reduceSub, Nat.reduceAdd])
  (repeat (first | refine st ?_ | refine σa ?_ | (refine σb ?_; simp (disch := omega) only [push_cast, ↓reduceIte, reduceCtorEq, ν1, ν2, ν3, ν4, ν5, ζ1, ζ2, ζ3, ζ4, ζ5, mvL_ld, g1, g2, g3, g4, g5, o1, o2, o3, o4, o5, mem2E, List.drop_nil, List.append_nil, memE, boxE, boxE, buildE])))
  ((first | refine retA.ret (by rfl) ?_ | refine retA.normal (by rfl) ?_); simp (disch := omega) only [push_cast, ↓reduceIte, reduceCtorEq, Nat.reduceAdd, Nat.reduceMul, Nat.reduceLeDiff, Nat.reduceLT, Nat.reduceSub, Int.reduceNe, Int.reduceEq, Int.reduceLE, Int.reduceLT, Int.reduceToNat, mem2E, g1, g2, g3, g4, g5, o1, o2, o3, o4, o5, memE, boxE, buildE])
  exact ⟨Fr.push2 _ _ _, rfl⟩
theorem mvto_spec (m : MV) (g a c nw d : Value) (M : Mem) (hi : isSl g = true ∧ isSl a = true ∧ isSl c = true ∧ isSl nw = true ∧ isSl d = true) : CallA Try.prog 25 [.agg ⟨mvL m g a c nw d⟩] M fun r M' => Fr M M' [] ∧ r = .agg ⟨mvL m g a c nw d⟩ := by
  obtain ⟨i1, i2, i3, i4, i5⟩ := hi
  have g1 := isSl_cl i1
  have g2 := isSl_cl i2
  have g3 := isSl_cl i3
  have g4 := isSl_cl i4
  have g5 := isSl_cl i5
  have o1 := isSl_one i1
  have o2 := isSl_one i2
  have o3 := isSl_one i3
  have o4 := isSl_one i4
  have o5 := isSl_one i5
  simp only [Value.oneCell'] at o1 o2 o3 o4 o5
  (refine CallA.of_body Try.func25 rfl (by rfl) ?_; simp only [Try.ntmps25, List.length_cons, List.length_nil, List.replicate, List.cons_append, List.nil_append, Nat.reduceSub, Nat.reduceAdd])
  (repeat (first | refine st ?_ | refine σa ?_ | (refine σb ?_; simp (disch := omega) only [push_cast, ↓reduceIte, reduceCtorEq, ν1, ν2, ν3, ν4, ν5, ζ1, ζ2, ζ3, ζ4, ζ5, mvL_ld, g1, g2, g3, g4, g5, o1, o2, o3, o4, o5, mem2E, List.drop_nil, List.append_nil, memE, boxE, boxE, buildE])))
  ((first | refine retA.ret (by rfl) ?_ | refine retA.normal (by rfl) ?_); simp (disch := omega) only [push_cast, ↓reduceIte, reduceCtorEq, Nat.reduceAdd, Nat.reduceMul, Nat.reduceLeDiff, Nat.reduceLT, Nat.reduceSub, Int.reduceNe, Int.reduceEq, Int.reduceLE, Int.reduceLT, Int.reduceToNat, mem2E, g1, g2, g3, g4, g5, o1, o2, o3, o4, o5, memE, boxE, buildE])
  exact ⟨Fr.push2 _ _ _, rfl⟩
theorem msame_eq (m : MV) (g a c nw d g' a' c' nw' d' : Value) (M : Mem) (h : MVin M m g a c nw d) (h' : MVin M m g' a' c' nw' d') (l1 : m.gone.length ≤ 1000000) (l2 : m.new.length ≤ 1000000) (l3 : m.data.length ≤ 1000000) (l4 : m.attrs.path.length ≤ 1000000) (l5 : m.attrs.comms.length ≤ 1000000) :
    CallA Try.prog 20 [.agg ⟨mvL m g a c nw d⟩, .agg ⟨mvL m g' a' c' nw' d'⟩] M fun r M' => Fr M M' [] ∧ r = .bool true := by
  have g1 := isSl_cl h.gone.isSl
  have g2 := isSl_cl h.path.isSl
  have g3 := isSl_cl h.comms.isSl
  have g4 := isSl_cl h.new.isSl
  have g5 := isSl_cl h.data.isSl
  have k1 := isSl_cl h'.gone.isSl
  have k2 := isSl_cl h'.path.isSl
  have k3 := isSl_cl h'.comms.isSl
  have k4 := isSl_cl h'.new.isSl
  have k5 := isSl_cl h'.data.isSl
  (refine CallA.of_body Try.func20 rfl (by rfl) ?_; simp only [Try.ntmps20, List.length_cons, List.length_nil, List.replicate, List.cons_append, List.nil_append, Nat.reduceSub, Nat.reduceAdd])
  have e1 : decide (m.kind = m.kind) = true := decide_eq_true rfl
  have e2 : decide (m.asn = m.asn) = true := decide_eq_true rfl
  have e3 : decide (m.id = m.id) = true := decide_eq_true rfl
  have e4 : decide (m.hold = m.hold) = true := decide_eq_true rfl
  have e5 : decide (m.code = m.code) = true := decide_eq_true rfl
  have e6 : decide (m.sub = m.sub) = true := decide_eq_true rfl
  have P2 := Fr.push2 M (.box (mvL m g a c nw d)) (.box (mvL m g' a' c' nw' d'))
  have A2 := (At.push M (.box (mvL m g a c nw d))).keep (Fr.push _ (.box (mvL m g' a' c' nw' d'))) (by simp)
  have B2 := At.push (M ++ [.box (mvL m g a c nw d)]) (.box (mvL m g' a' c' nw' d'))
  have h2 := h.keep P2 (by simp)
  have h2' := h'.keep P2 (by simp)
  (repeat (first | refine st ?_ | refine σa ?_ | (refine σb ?_; simp (disch := omega) only [push_cast, ↓reduceIte, reduceCtorEq, ν1, ν2, ν3, ν4, ν5, ζ1, ζ2, ζ3, ζ4, ζ5, mvL_ld, e1, e2, e3, e4, g1, g2, g3, g4, g5, k1, k2, k3, k4, k5, A2.ld, B2.ld, buildE])))
  rw [List.length_append, List.length_singleton] at B2 ⊢
  generalize M ++ [Blk.box (mvL m g a c nw d)] ++ [Blk.box (mvL m g' a' c' nw' d')] = M2 at *
  obtain ⟨s, hs⟩ : ∃ s, s = M.length := ⟨_, rfl⟩
  rw [← hs] at A2 B2 ⊢
  refine (psame_spec g g' m.gone m.gone M2 h2.gone h2'.gone (by omega)).mono ?_
  rintro r M3 ⟨rfl, rfl⟩
  have e7 : decide (m.gone = m.gone) = true := decide_eq_true rfl
  (repeat (first | refine st ?_ | refine σa ?_ | (refine σb ?_; simp (disch := omega) only [push_cast, ↓reduceIte, reduceCtorEq, ν1, ν2, ν3, ν4, ν5, ζ1, ζ2, ζ3, ζ4, ζ5, mvL_ld, e7, g1, g2, g3, g4, g5, k1, k2, k3, k4, k5, A2.ld, B2.ld, buildE])))
  refine (psame_spec nw nw' m.new m.new _ h2.new h2'.new (by omega)).mono ?_
  rintro r M4 ⟨rfl, rfl⟩
  have e8 : decide (m.new = m.new) = true := decide_eq_true rfl
  (repeat (first | refine st ?_ | refine σa ?_ | (refine σb ?_; simp (disch := omega) only [push_cast, ↓reduceIte, reduceCtorEq, ν1, ν2, ν3, ν4, ν5, ζ1, ζ2, ζ3, ζ4, ζ5, mvL_ld, e8, g1, g2, g3, g4, g5, k1, k2, k3, k4, k5, A2.ld, B2.ld, buildE])))
  refine (same_spec _ _ m.attrs m.attrs _ ⟨a, c, rfl, h2.path, h2.comms⟩ ⟨a', c', rfl, h2'.path, h2'.comms⟩ (by omega) (by omega)).mono ?_
  rintro r M5 ⟨f5, rfl⟩
  rw [sameP_self]
  have A5 := A2.keep f5 (by simp)
  have B5 := B2.keep f5 (by simp)
  (repeat (first | refine st ?_ | refine σa ?_ | (refine σb ?_; simp (disch := omega) only [push_cast, ↓reduceIte, reduceCtorEq, ν1, ν2, ν3, ν4, ν5, ζ1, ζ2, ζ3, ζ4, ζ5, mvL_ld, e5, e6, g1, g2, g3, g4, g5, k1, k2, k3, k4, k5, A5.ld, B5.ld, buildE])))
  refine (bytes_spec d d' m.data m.data _ (h2.data.keep f5 (by simp)) (h2'.data.keep f5 (by simp)) (by omega)).mono ?_
  rintro r M6 ⟨rfl, rfl⟩
  have e9 : decide (m.data = m.data) = true := decide_eq_true rfl
  (repeat (first | refine st ?_ | refine σa ?_ | (refine σb ?_; simp (disch := omega) only [push_cast, ↓reduceIte, reduceCtorEq, ν1, ν2, ν3, ν4, ν5, ζ1, ζ2, ζ3, ζ4, ζ5, e9])))
  ((first | refine retA.ret (by rfl) ?_ | refine retA.normal (by rfl) ?_); simp (disch := omega) only [push_cast, ↓reduceIte, reduceCtorEq, Nat.reduceAdd, Nat.reduceMul, Nat.reduceLeDiff, Nat.reduceLT, Nat.reduceSub, Int.reduceNe, Int.reduceEq, Int.reduceLE, Int.reduceLT, Int.reduceToNat])
  exact P2.tr f5
/-- Equations of the last two of three boxes, by the number of the one ahead of them. -/
theorem mem3E : (∀ (P : Program) (ty : TypeId) (M : Mem) (X Y Z : Blk) (j : Nat), aload P ty (M ++ [X] ++ [Y] ++ [Z]) (M.length + 1 + 1) j = bload P ty Z.cells j) ∧ (∀ (M : Mem) (X Y Z : Blk), (M ++ [X] ++ [Y] ++ [Z])[M.length + 1 + 1]? = some Z) ∧ (∀ (M : Mem) (X Y Z B : Blk), (M ++ [X] ++ [Y] ++ [Z]).set (M.length + 1 + 1) B = M ++ [X] ++ [Y] ++ [B]) ∧
  (∀ (P : Program) (ty : TypeId) (M : Mem) (X Y Z : Blk) (j : Nat), aload P ty (M ++ [X] ++ [Y] ++ [Z]) (M.length + 1) j = bload P ty Y.cells j) ∧ (∀ (M : Mem) (X Y Z : Blk), (M ++ [X] ++ [Y] ++ [Z])[M.length + 1]? = some Y) ∧ (∀ (M : Mem) (X Y Z B : Blk), (M ++ [X] ++ [Y] ++ [Z]).set (M.length + 1) B = M ++ [X] ++ [B] ++ [Z]) := by
  refine ⟨fun P ty M X Y Z j => ?_, fun M X Y Z => ?_, fun M X Y Z B => ?_, fun P ty M X Y Z j => ?_, fun M X Y Z => ?_, fun M X Y Z B => ?_⟩
  · have := mem2E.1 P ty (M ++ [X]) Y Z j
    rwa [List.length_append, List.length_singleton] at this
  · have := mem2E.2.1 (M ++ [X]) Y Z
    rwa [List.length_append, List.length_singleton] at this
  · have := mem2E.2.2.1 (M ++ [X]) Y Z B
    rwa [List.length_append, List.length_singleton] at this
  · have := ld_two P ty (M ++ [X]) Y Z j
    rwa [List.length_append, List.length_singleton] at this
  · have := get_two (M ++ [X]) Y Z
    rwa [List.length_append, List.length_singleton] at this
  · have := set_two (M ++ [X]) Y Z B
    rwa [List.length_append, List.length_singleton] at this
theorem mvown_spec (m : MV) (g a c nw d : Value) (M : Mem) (h : MVin M m g a c nw d) : CallA Try.prog 26 [.agg ⟨mvL m g a c nw d⟩] M fun r M' => Fr M M' [] ∧ ∃ g' a' c' nw' d', r = .agg ⟨mvL (ownM m) g' a' c' nw' d'⟩ ∧ MVin M' (ownM m) g' a' c' nw' d' := by
  have g1 := isSl_cl h.gone.isSl
  have g2 := isSl_cl h.path.isSl
  have g3 := isSl_cl h.comms.isSl
  have g4 := isSl_cl h.new.isSl
  have g5 := isSl_cl h.data.isSl
  have o1 := isSl_one h.gone.isSl
  have o2 := isSl_one h.path.isSl
  have o3 := isSl_one h.comms.isSl
  have o4 := isSl_one h.new.isSl
  have o5 := isSl_one h.data.isSl
  have sn := h.new.isSl
  have ln := h.new.lnX
  simp only [Value.oneCell'] at o1 o2 o3 o4 o5
  (refine CallA.of_body Try.func26 rfl (by rfl) ?_; simp only [Try.ntmps26, List.length_cons, List.length_nil, List.replicate, List.cons_append, List.nil_append, Nat.reduceSub, Nat.reduceAdd])
  by_cases k1 : m.kind = 1
  · have d1 : decide (m.kind = 1) = true := decide_eq_true k1
    (repeat (first | refine st ?_ | refine σa ?_ | (refine σb ?_; simp (disch := omega) only [push_cast, ↓reduceIte, reduceCtorEq, ν1, ν2, ν3, ν4, ν5, ζ1, ζ2, ζ3, ζ4, ζ5, mvL_ld, d1, g1, g2, g3, g4, g5, o1, o2, o3, o4, o5, mem2E, List.drop_nil, List.append_nil, memE, boxE, boxE, buildE])))
    ((first | refine retA.ret (by rfl) ?_ | refine retA.normal (by rfl) ?_); simp (disch := omega) only [push_cast, ↓reduceIte, reduceCtorEq, Nat.reduceAdd, Nat.reduceMul, Nat.reduceLeDiff, Nat.reduceLT, Nat.reduceSub, Int.reduceNe, Int.reduceEq, Int.reduceLE, Int.reduceLT, Int.reduceToNat, mem2E, g1, g2, g3, g4, g5, o1, o2, o3, o4, o5, memE, boxE, buildE])
    have eo : ownM m = { MV.zero with kind := 1, asn := m.asn, id := m.id, hold := m.hold } := by unfold ownM; rw [if_pos k1]
    refine ⟨Fr.push2 _ _ _, .slice none 0 0, .slice none 0 0, .slice none 0 0, .slice none 0 0, .slice none 0 0, by rw [eo]; rfl, by rw [eo]; exact MVin.nils _ ⟨rfl, rfl, rfl, rfl, rfl⟩⟩
  have d1 : decide (m.kind = 1) = false := decide_eq_false k1
  by_cases k2 : m.kind = 2
  · have d2 : decide (m.kind = 2) = true := decide_eq_true k2
    by_cases hn : m.new = []
    · have dn : decide ((m.new.length : Int) > 0) = false := decide_eq_false (by rw [hn]; simp)
      (repeat (first | refine st ?_ | refine σa ?_ | (refine σb ?_; simp (disch := omega) only [push_cast, ↓reduceIte, reduceCtorEq, ν1, ν2, ν3, ν4, ν5, ζ1, ζ2, ζ3, ζ4, ζ5, mvL_ld, d1, d2, dn, sn, ln, g1, g2, g3, g4, g5, o1, o2, o3, o4, o5, mem3E, mem2E, List.drop_nil, List.append_nil, memE, boxE, boxE, buildE])))
      ((first | refine retA.ret (by rfl) ?_ | refine retA.normal (by rfl) ?_); simp (disch := omega) only [push_cast, ↓reduceIte, reduceCtorEq, Nat.reduceAdd, Nat.reduceMul, Nat.reduceLeDiff, Nat.reduceLT, Nat.reduceSub, Int.reduceNe, Int.reduceEq, Int.reduceLE, Int.reduceLT, Int.reduceToNat, mem3E, mem2E, g1, g2, g3, g4, g5, o1, o2, o3, o4, o5, memE, boxE, buildE])
      have eo : ownM m = { MV.zero with kind := 2, gone := m.gone, new := m.new, attrs := AV.zero } := by unfold ownM; rw [if_neg k1, if_pos k2, if_pos hn]
      refine ⟨(Fr.push2 _ _ _).tr (Fr.push _ _), g, .slice none 0 0, .slice none 0 0, nw, .slice none 0 0, by rw [eo]; rfl, by rw [eo]; exact ⟨h.gone.keep ((Fr.push2 _ _ _).tr (Fr.push _ _)) (by simp), Sl.nil _ (by omega), Sl.nil _ (by omega), h.new.keep ((Fr.push2 _ _ _).tr (Fr.push _ _)) (by simp), Sl.nil _ (by omega)⟩⟩
    · have dn : decide ((m.new.length : Int) > 0) = true := decide_eq_true (by have := List.length_pos_iff.2 hn; omega)
      (repeat (first | refine st ?_ | refine σa ?_ | (refine σb ?_; simp (disch := omega) only [push_cast, ↓reduceIte, reduceCtorEq, ν1, ν2, ν3, ν4, ν5, ζ1, ζ2, ζ3, ζ4, ζ5, mvL_ld, d1, d2, dn, sn, ln, g1, g2, g3, g4, g5, o1, o2, o3, o4, o5, mem3E, mem2E, List.drop_nil, List.append_nil, memE, boxE, boxE, buildE])))
      ((first | refine retA.ret (by rfl) ?_ | refine retA.normal (by rfl) ?_); simp (disch := omega) only [push_cast, ↓reduceIte, reduceCtorEq, Nat.reduceAdd, Nat.reduceMul, Nat.reduceLeDiff, Nat.reduceLT, Nat.reduceSub, Int.reduceNe, Int.reduceEq, Int.reduceLE, Int.reduceLT, Int.reduceToNat, mem3E, mem2E, g1, g2, g3, g4, g5, o1, o2, o3, o4, o5, memE, boxE, buildE])
      have eo : ownM m = { MV.zero with kind := 2, gone := m.gone, new := m.new, attrs := m.attrs } := by unfold ownM; rw [if_neg k1, if_pos k2, if_neg hn]
      refine ⟨(Fr.push2 _ _ _).tr (Fr.push _ _), g, a, c, nw, .slice none 0 0, by rw [eo]; rfl, by rw [eo]; exact ⟨h.gone.keep ((Fr.push2 _ _ _).tr (Fr.push _ _)) (by simp), h.path.keep ((Fr.push2 _ _ _).tr (Fr.push _ _)) (by simp), h.comms.keep ((Fr.push2 _ _ _).tr (Fr.push _ _)) (by simp), h.new.keep ((Fr.push2 _ _ _).tr (Fr.push _ _)) (by simp), Sl.nil _ (by omega)⟩⟩
  have d2 : decide (m.kind = 2) = false := decide_eq_false k2
  by_cases k3 : m.kind = 3
  · have d3 : decide (m.kind = 3) = true := decide_eq_true k3
    (repeat (first | refine st ?_ | refine σa ?_ | (refine σb ?_; simp (disch := omega) only [push_cast, ↓reduceIte, reduceCtorEq, ν1, ν2, ν3, ν4, ν5, ζ1, ζ2, ζ3, ζ4, ζ5, mvL_ld, d1, d2, d3, g1, g2, g3, g4, g5, o1, o2, o3, o4, o5, mem2E, List.drop_nil, List.append_nil, memE, boxE, boxE, buildE])))
    ((first | refine retA.ret (by rfl) ?_ | refine retA.normal (by rfl) ?_); simp (disch := omega) only [push_cast, ↓reduceIte, reduceCtorEq, Nat.reduceAdd, Nat.reduceMul, Nat.reduceLeDiff, Nat.reduceLT, Nat.reduceSub, Int.reduceNe, Int.reduceEq, Int.reduceLE, Int.reduceLT, Int.reduceToNat, mem2E, g1, g2, g3, g4, g5, o1, o2, o3, o4, o5, memE, boxE, buildE])
    have eo : ownM m = { MV.zero with kind := 3, code := m.code, sub := m.sub, data := m.data } := by unfold ownM; rw [if_neg k1, if_neg k2, if_pos k3]
    refine ⟨Fr.push2 _ _ _, .slice none 0 0, .slice none 0 0, .slice none 0 0, .slice none 0 0, d, by rw [eo]; rfl, by rw [eo]; exact ⟨Sl.nil _ (by omega), Sl.nil _ (by omega), Sl.nil _ (by omega), Sl.nil _ (by omega), h.data.keep (Fr.push2 _ _ _) (by simp)⟩⟩
  have d3 : decide (m.kind = 3) = false := decide_eq_false k3
  (repeat (first | refine st ?_ | refine σa ?_ | (refine σb ?_; simp (disch := omega) only [push_cast, ↓reduceIte, reduceCtorEq, ν1, ν2, ν3, ν4, ν5, ζ1, ζ2, ζ3, ζ4, ζ5, mvL_ld, d1, d2, d3, g1, g2, g3, g4, g5, o1, o2, o3, o4, o5, mem2E, List.drop_nil, List.append_nil, memE, boxE, boxE, buildE])))
  ((first | refine retA.ret (by rfl) ?_ | refine retA.normal (by rfl) ?_); simp (disch := omega) only [push_cast, ↓reduceIte, reduceCtorEq, Nat.reduceAdd, Nat.reduceMul, Nat.reduceLeDiff, Nat.reduceLT, Nat.reduceSub, Int.reduceNe, Int.reduceEq, Int.reduceLE, Int.reduceLT, Int.reduceToNat, mem2E, g1, g2, g3, g4, g5, o1, o2, o3, o4, o5, memE, boxE, buildE])
  have eo : ownM m = { MV.zero with kind := m.kind } := by unfold ownM; rw [if_neg k1, if_neg k2, if_neg k3]
  refine ⟨Fr.push2 _ _ _, .slice none 0 0, .slice none 0 0, .slice none 0 0, .slice none 0 0, .slice none 0 0, by rw [eo]; rfl, by rw [eo]; exact MVin.nils _ ⟨rfl, rfl, rfl, rfl, rfl⟩⟩

end Go.Proofs.Ytbdejnnbpdgjlaa.Ax
