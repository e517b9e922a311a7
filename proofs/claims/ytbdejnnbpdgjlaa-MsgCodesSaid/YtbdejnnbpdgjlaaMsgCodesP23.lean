/- Contracts of functions over the abstract machine. No conditions: lemmas alone. -/
import Derived.Test.YtbdejnnbpdgjlaaMsgCodesLibD
import Derived.Test.YtbdejnnbpdgjlaaMsgCodesP0
import Derived.Test.YtbdejnnbpdgjlaaMsgCodesP20
import Derived.Test.YtbdejnnbpdgjlaaMsgCodesP22
import Derived.Test.YtbdejnnbpdgjlaaMsgCodesP14
namespace Go.Proofs.Ytbdejnnbpdgjlaa.Ax
open Go Go.RowKit
open Nat renaming reduceAdd → ν1, reduceMul → ν2, reduceLeDiff → ν3, reduceLT → ν4, reduceSub → ν5
open Int renaming reduceNe → ζ1, reduceEq → ζ2, reduceLE → ζ3, reduceLT → ζ4, reduceToNat → ζ5
set_option linter.unusedVariables false
set_option linter.unusedSimpArgs false
set_option maxRecDepth 100000
set_option maxHeartbeats 20000000
attribute [local irreducible] thenA blockA scopeA retA AL AW AD ADL AH clrK CallA apure aload bload appK ptrK fnK ares szOk planOk okOps
/-- An append to nothing. -/
theorem appB0 {M : Mem} {v : Value} {xs : List Int} {C : Value → Mem → Prop} (hv : Sl M v 1 (ints .u8 xs)) (hl : xs.length ≤ 100000000) (h : ∀ v' M', New M M' v' 1 (ints .u8 xs) → Fr M M' [] → C v' M') : appK Try.prog 39 39 (.slice (some ⟨M.length, 0, none⟩) 0 0) v (M ++ [.row true 1 []]) C := by
  have r0 := New.row M (s := 1) (n := 0) (cs := []) (by omega) rfl rfl (by decide)
  refine appK.ints (P := Try.prog) (e := 5) (bt := 1) (z := .int .u8 0) (by kernel_rfl) (by kernel_rfl) (by kernel_rfl) (by kernel_rfl) (by decide) (xs := []) r0.1 (hv.keep (Fr.push M (.row true 1 [])) (by simp)) (by simp; omega) ?_
  intro v' M' hN hF
  rw [List.nil_append] at hN
  exact h v' M' (hN.after (Fr.push M (.row true 1 []))) ((Fr.push M (.row true 1 [])).tr hF)
/-- Equations of the last box, by the number of the one ahead of it. -/
theorem mem2E : (∀ (P : Program) (ty : TypeId) (M : Mem) (X Y : Blk) (j : Nat), aload P ty (M ++ [X] ++ [Y]) (M.length + 1) j = bload P ty Y.cells j) ∧ (∀ (M : Mem) (X Y : Blk), (M ++ [X] ++ [Y])[M.length + 1]? = some Y) ∧ (∀ (M : Mem) (X Y B : Blk), (M ++ [X] ++ [Y]).set (M.length + 1) B = M ++ [X] ++ [B]) ∧ (∀ (M : Mem) (X : Blk), (M ++ [X]).length = M.length + 1) := by
  refine ⟨fun P ty M X Y j => ?_, fun M X Y => ?_, fun M X Y B => ?_, fun M X => by simp⟩
  · have := ld_one P ty (M ++ [X]) Y j
    rwa [List.length_append, List.length_singleton] at this
  · have := push_get (M ++ [X]) Y
    rwa [List.length_append, List.length_singleton] at this
  · have := set_push (M ++ [X]) Y B
    rwa [List.length_append, List.length_singleton] at this
theorem mvL_len (m : MV) (g a c nw d : Value) : (mvL m g a c nw d).length = 17 := rfl
theorem mvL_one {m : MV} {g a c nw d : Value} (h : isSl g = true ∧ isSl a = true ∧ isSl c = true ∧ isSl nw = true ∧ isSl d = true) : (mvL m g a c nw d).all Value.oneCell' = true := by
  obtain ⟨h1, h2, h3, h4, h5⟩ := h
  have o1 := isSl_one h1
  have o2 := isSl_one h2
  have o3 := isSl_one h3
  have o4 := isSl_one h4
  have o5 := isSl_one h5
  simp [mvL, o1, o2, o3, o4, o5]
  simp [Value.oneCell']
theorem mreadK {v : Value} {xs : List Int} {M : Mem} {m : MV} {n f1 f2 : Int} {K : Value → Mem → Prop} (hv : Sl M v 1 (ints .u8 xs)) (hx : xs.length ≤ 10000000) (hb : ∀ x ∈ xs, 0 ≤ x ∧ x ≤ 255) (h : readM xs = (m, n, (f1, f2)))
    (hK : ∀ M' g a c nw d, Fr M M' [] → MVin M' m g a c nw d → (mvL m g a c nw d).all Value.oneCell' = true → (isSl g = true ∧ isSl a = true ∧ isSl c = true ∧ isSl nw = true ∧ isSl d = true) → (∀ b ∈ blkOf g ++ (blkOf a ++ (blkOf c ++ (blkOf nw ++ blkOf d))), M.length ≤ b) → K (.tuple ⟨[.agg ⟨mvL m g a c nw d⟩, .int .i64 n, .agg ⟨[.int .i64 f1, .int .i64 f2]⟩]⟩) M') : CallA Try.prog 18 [v] M K := by
  refine (mread_spec v xs M hv hb hx).mono ?_
  rintro r M' ⟨hF, g, a, c, nw, d, rfl, hi, hin, hbk⟩
  rw [h] at hin ⊢
  exact hK M' g a c nw d hF hin (mvL_one hi) hi hbk
theorem mputK {M : Mem} {m : MV} {g a c nw d : Value} {bs : List Int} {e : Int} {K : Value → Mem → Prop} (hi : MVin M m g a c nw d) (hg : goodM m) (hz : sizeM m) (h : putM m = (bs, e))
    (hK : ∀ M' w, Fr M M' [] → New M M' w 1 (ints .u8 bs) → K (.tuple ⟨[w, .int .i64 e]⟩) M') : CallA Try.prog 24 [.agg ⟨mvL m g a c nw d⟩] M K := by
  refine (msgput_spec m g a c nw d M hi hg hz).mono ?_
  rintro r M' ⟨hF, w, rfl, hN⟩
  rw [h] at hN ⊢
  exact hK M' w hF hN
theorem MVin.nils (M : Mem) {m : MV} (h : m.gone = [] ∧ m.attrs.path = [] ∧ m.attrs.comms = [] ∧ m.new = [] ∧ m.data = []) : MVin M m (.slice none 0 0) (.slice none 0 0) (.slice none 0 0) (.slice none 0 0) (.slice none 0 0) := by
  obtain ⟨h1, h2, h3, h4, h5⟩ := h
  exact ⟨by rw [h1]; exact Sl.nil _ (by omega), by rw [h2]; exact Sl.nil _ (by omega), by rw [h3]; exact Sl.nil _ (by omega), by rw [h4]; exact Sl.nil _ (by omega), by rw [h5]; exact Sl.nil _ (by omega)⟩
def msg4 : MV := { MV.zero with kind := 4 }
theorem good4 : goodM msg4 := by simp [goodM, msg4, MV.zero, goodAV, AV.zero, u32]
theorem size4 : sizeM msg4 := by simp [sizeM, msg4, MV.zero, AV.zero]
theorem put4 : putM msg4 = (List.replicate 16 255 ++ [0, 19, 4], 0) := by
  have hr : rightM msg4 := by unfold rightM; simp [msg4]
  unfold putM
  rw [if_neg (by simp [msg4]), if_neg (by simp [hr]), if_neg (by simp [msg4, bodyB])]
  rfl
theorem alive25_spec (M : Mem) : CallA Try.prog 17 [] M fun r M' => Fr M M' [] ∧ r = .bool true := by
  have e1 : readM (List.replicate 16 255 ++ [0, 18, 4]) = (MV.zero, 0, (1, 2)) := by kernel_rfl
  have e2 : readM (List.replicate 16 255 ++ [0, 19, 5]) = (MV.zero, 0, (1, 3)) := by kernel_rfl
  have e3 : readM (List.replicate 16 255 ++ [0, 20, 4]) = (MV.zero, 0, (1, 2)) := by kernel_rfl
  have e4 : readM (List.replicate 15 255) = (MV.zero, 0, (0, 0)) := by kernel_rfl
  (refine CallA.of_body Try.func17 rfl (by rfl) ?_; simp only [Try.ntmps17, List.length_cons, List.length_nil, List.replicate, List.cons_append, List.nil_append, Nat.reduceSub, Nat.reduceAdd])
  (repeat (first | refine st ?_ | refine σa ?_ | (refine σb ?_; simp (disch := omega) only [push_cast, ↓reduceIte, reduceCtorEq, ν1, ν2, ν3, ν4, ν5, ζ1, ζ2, ζ3, ζ4, ζ5, buildE])))
  refine mputK (m := msg4) (g := .slice none 0 0) (a := .slice none 0 0) (c := .slice none 0 0) (nw := .slice none 0 0) (d := .slice none 0 0) (MVin.nils _ ⟨rfl, rfl, rfl, rfl, rfl⟩) good4 size4 put4 fun M1 w f1 n1 => ?_
  obtain ⟨L0, hL0⟩ : ∃ L, L = List.replicate 16 (255 : Int) ++ [0, 19, 4] := ⟨_, rfl⟩
  rw [← hL0] at n1
  have s1 := n1.sl.isSl
  have l1 := n1.sl.lnI
  have ll : L0.length = 19 := by rw [hL0]; rfl
  rw [ll] at l1
  have li : ((sln w : Nat) : Int) = 19 := by omega
  have i16 : (16 : Int) < 19 := by omega
  have g16 := n1.sl.ldN (P := Try.prog) (ty := 5) (i := 16) (by kernel_rfl) (by omega)
  have g17 := n1.sl.ldN (P := Try.prog) (ty := 5) (i := 17) (by kernel_rfl) (by omega)
  have g18 := n1.sl.ldN (P := Try.prog) (ty := 5) (i := 18) (by kernel_rfl) (by omega)
  have v16 : L0.getD 16 0 = 0 := by rw [hL0]; rfl
  have v17 : L0.getD 17 0 = 19 := by rw [hL0]; rfl
  have v18 : L0.getD 18 0 = 4 := by rw [hL0]; rfl
  rw [v16] at g16
  rw [v17] at g17
  rw [v18] at g18
  have d1 : decide ((0 : Int) = 0) = true := rfl
  have d2 : decide ((19 : Int) = 19) = true := rfl
  have d3 : decide ((4 : Int) = 4) = true := rfl
  (repeat (first | refine st ?_ | refine σa ?_ | (refine σb ?_; simp (disch := omega) only [push_cast, ↓reduceIte, reduceCtorEq, ν1, ν2, ν3, ν4, ν5, ζ1, ζ2, ζ3, ζ4, ζ5, s1, li, g16, g17, g18, d1, d2, d3, Bool.not_true, Bool.not_false])))
  refine appB0 n1.sl (by omega) fun u M2 n2 f2 => ?_
  have w2 := n1.sl.keep f2 (by simp)
  have F2 := f1.tr f2
  have hub := n2.blk
  have hwb := n1.sl.blks
  obtain ⟨b0, ho, hcp, pre, rfl, hget, hoff, hc0, hcap⟩ := n2.1.openI (by intro h; rw [h] at ll; simp at ll)
  rw [ll] at hcap
  have b0M : M1.length ≤ b0 := hub b0 (by simp [blkOf, hc0])
  have hM1 := f1.1
  rw [ll]
  have ta0 := splI (k := .u8) (xs := L0) hoff (i := 17) (by omega) 18
  have ua0 := roomI (k := .u8) (xs := L0) hoff (i := 17) (by omega)
  have va0 : List.take (ho + 17) (pre ++ ints .u8 L0) ++ [.int .u8 18] ++ List.drop (ho + 17 + 1) (pre ++ ints .u8 L0) = pre ++ ints .u8 (L0.set 17 18) := ta0
  (repeat (first | refine st ?_ | refine σa ?_ | (refine σb ?_; simp (disch := omega) only [push_cast, ↓reduceIte, reduceCtorEq, ν1, ν2, ν3, ν4, ν5, ζ1, ζ2, ζ3, ζ4, ζ5, hget, ta0, ua0, va0, Option.some.injEq, exists_eq_left', Blk.put, Blk.ours, Blk.cells])))
  have eLa : (L0.set 17 18) = List.replicate 16 255 ++ [0, 18, 4] := by rw [hL0]; rfl
  obtain ⟨La, hLa⟩ : ∃ L, L = List.replicate 16 (255 : Int) ++ [0, 18, 4] := ⟨_, rfl⟩
  have lla : La.length = 19 := by rw [hLa]; rfl
  rw [← hLa] at eLa e1
  rw [eLa]
  have hseta := ownI (k := .u8) (xs := La) (M := M2.set b0 (.row true 1 (pre ++ ints .u8 La))) (b := b0) (off := ho) (c := hcp) (pre := pre) (List.getElem?_set_self (List.getElem?_eq_some_iff.1 hget).1) hoff hc0 (by omega)
  have Fsa := Fr.set M2 b0 (.row true 1 (pre ++ ints .u8 La))
  have wa := w2.keep Fsa (fun b h hx => by have := hwb b h; simp at hx; omega)
  have Fa : Fr M _ [] := (F2.trans Fsa).cut (fun c hc hlt => by simp at hc; omega)
  rw [lla] at hseta
  have hba : ∀ x ∈ La, 0 ≤ x ∧ x ≤ 255 := by rw [hLa]; decide
  have hb0lt := (List.getElem?_eq_some_iff.1 hget).1
  clear hget
  refine mreadK hseta.sl (by omega) hba e1 fun Na g a c nw d fa _ oa _ _ => ?_
  (repeat (first | refine st ?_ | refine σa ?_ | (refine σb ?_; simp (disch := omega) only [push_cast, ↓reduceIte, reduceCtorEq, ν1, ν2, ν3, ν4, ν5, ζ1, ζ2, ζ3, ζ4, ζ5, mvL_len, oa, mem2E, List.drop_nil, List.append_nil, memE, boxE, boxE])))
  have Pa := Fr.push2 Na (.box (mvL MV.zero g a c nw d)) (.box [.int .i64 1, .int .i64 2])
  have Ba := At.push (Na ++ [.box (mvL MV.zero g a c nw d)]) (.box [.int .i64 1, .int .i64 2])
  have hgs : (M2.set b0 (.row true 1 (pre ++ ints .u8 La)))[b0]? = some (.row true 1 (pre ++ ints .u8 La)) := List.getElem?_set_self (by simpa using hb0lt)
  have hget := ((fa.tr Pa).2 b0 (List.getElem?_eq_some_iff.1 hgs).1 (by simp)).trans hgs
  have wa := (wa.keep fa (by simp)).keep Pa (by simp)
  have Fa := (Fa.tr fa).tr Pa
  have hb0lt := (List.getElem?_eq_some_iff.1 hget).1
  rw [List.length_append, List.length_singleton] at Ba
  generalize hbxa : Na.length + 1 = xa at *
  have hxa : b0 < xa := by rw [← hbxa]; have := (List.getElem?_eq_some_iff.1 hgs).1; have := fa.1; simp; omega
  clear hgs hseta fa Pa Fsa hbxa
  generalize Na ++ [Blk.box (mvL MV.zero g a c nw d)] ++ [Blk.box [.int .i64 1, .int .i64 2]] = Xa at *
  have tb0 := splI (k := .u8) (xs := La) hoff (i := 17) (by omega) 19
  have ub0 := roomI (k := .u8) (xs := La) hoff (i := 17) (by omega)
  have vb0 : List.take (ho + 17) (pre ++ ints .u8 La) ++ [.int .u8 19] ++ List.drop (ho + 17 + 1) (pre ++ ints .u8 La) = pre ++ ints .u8 (La.set 17 19) := tb0
  have tb1 := splI (k := .u8) (xs := (La.set 17 19)) hoff (i := 18) (by rw [List.length_set]; omega) 5
  have ub1 := roomI (k := .u8) (xs := (La.set 17 19)) hoff (i := 18) (by rw [List.length_set]; omega)
  have vb1 : List.take (ho + 18) (pre ++ ints .u8 (La.set 17 19)) ++ [.int .u8 5] ++ List.drop (ho + 18 + 1) (pre ++ ints .u8 (La.set 17 19)) = pre ++ ints .u8 ((La.set 17 19).set 18 5) := tb1
  have hgb : (Xa.set b0 (.row true 1 (pre ++ ints .u8 (La.set 17 19))))[b0]? = some (.row true 1 (pre ++ ints .u8 (La.set 17 19))) := List.getElem?_set_self (List.getElem?_eq_some_iff.1 hget).1
  simp (disch := omega) only [push_cast, ↓reduceIte, reduceCtorEq, Nat.reduceAdd, Nat.reduceMul, Nat.reduceLeDiff, Nat.reduceLT, Nat.reduceSub, Int.reduceNe, Int.reduceEq, Int.reduceLE, Int.reduceLT, Int.reduceToNat, hget, tb0, ub0, vb0, tb1, ub1, vb1, hgb, List.set_set, Option.some.injEq, exists_eq_left', Blk.put, Blk.ours, Blk.cells]
  (repeat (first | refine st ?_ | refine σa ?_ | (refine σb ?_; simp (disch := omega) only [push_cast, ↓reduceIte, reduceCtorEq, ν1, ν2, ν3, ν4, ν5, ζ1, ζ2, ζ3, ζ4, ζ5, hget, tb0, ub0, vb0, tb1, ub1, vb1, hgb, List.set_set, Option.some.injEq, exists_eq_left', Blk.put, Blk.ours, Blk.cells])))
  have eLb : ((La.set 17 19).set 18 5) = List.replicate 16 255 ++ [0, 19, 5] := by rw [hLa]; rfl
  obtain ⟨Lb, hLb⟩ : ∃ L, L = List.replicate 16 (255 : Int) ++ [0, 19, 5] := ⟨_, rfl⟩
  have llb : Lb.length = 19 := by rw [hLb]; rfl
  rw [← hLb] at eLb e2
  rw [eLb]
  have hsetb := ownI (k := .u8) (xs := Lb) (M := Xa.set b0 (.row true 1 (pre ++ ints .u8 Lb))) (b := b0) (off := ho) (c := hcp) (pre := pre) (List.getElem?_set_self (List.getElem?_eq_some_iff.1 hget).1) hoff hc0 (by omega)
  have Fsb := Fr.set Xa b0 (.row true 1 (pre ++ ints .u8 Lb))
  have wb := wa.keep Fsb (fun b h hx => by have := hwb b h; simp at hx; omega)
  have Fb : Fr M _ [] := (Fa.trans Fsb).cut (fun c hc hlt => by simp at hc; omega)
  rw [llb] at hsetb
  have Ba := Ba.keep Fsb (by simp; omega)
  have hbb : ∀ x ∈ Lb, 0 ≤ x ∧ x ≤ 255 := by rw [hLb]; decide
  have hb0lt := (List.getElem?_eq_some_iff.1 hget).1
  clear hget
  refine mreadK hsetb.sl (by omega) hbb e2 fun Nb g a c nw d fb _ ob _ _ => ?_
  (repeat (first | refine st ?_ | refine σa ?_ | (refine σb ?_; simp (disch := omega) only [push_cast, ↓reduceIte, reduceCtorEq, ν1, ν2, ν3, ν4, ν5, ζ1, ζ2, ζ3, ζ4, ζ5, mvL_len, ob, mem2E, List.drop_nil, List.append_nil, memE, boxE, boxE])))
  have Pb := Fr.push2 Nb (.box (mvL MV.zero g a c nw d)) (.box [.int .i64 1, .int .i64 3])
  have Bb := At.push (Nb ++ [.box (mvL MV.zero g a c nw d)]) (.box [.int .i64 1, .int .i64 3])
  have hgs : (Xa.set b0 (.row true 1 (pre ++ ints .u8 Lb)))[b0]? = some (.row true 1 (pre ++ ints .u8 Lb)) := List.getElem?_set_self (by simpa using hb0lt)
  have hget := ((fb.tr Pb).2 b0 (List.getElem?_eq_some_iff.1 hgs).1 (by simp)).trans hgs
  have wb := (wb.keep fb (by simp)).keep Pb (by simp)
  have Fb := (Fb.tr fb).tr Pb
  have Ba := (Ba.keep fb (by simp)).keep Pb (by simp)
  have hb0lt := (List.getElem?_eq_some_iff.1 hget).1
  rw [List.length_append, List.length_singleton] at Bb
  generalize hbxb : Nb.length + 1 = xb at *
  have hxb : b0 < xb := by rw [← hbxb]; have := (List.getElem?_eq_some_iff.1 hgs).1; have := fb.1; simp; omega
  clear hgs hsetb fb Pb Fsb hbxb
  generalize Nb ++ [Blk.box (mvL MV.zero g a c nw d)] ++ [Blk.box [.int .i64 1, .int .i64 3]] = Xb at *
  have tc0 := splI (k := .u8) (xs := Lb) hoff (i := 17) (by omega) 20
  have uc0 := roomI (k := .u8) (xs := Lb) hoff (i := 17) (by omega)
  have vc0 : List.take (ho + 17) (pre ++ ints .u8 Lb) ++ [.int .u8 20] ++ List.drop (ho + 17 + 1) (pre ++ ints .u8 Lb) = pre ++ ints .u8 (Lb.set 17 20) := tc0
  have tc1 := splI (k := .u8) (xs := (Lb.set 17 20)) hoff (i := 18) (by rw [List.length_set]; omega) 4
  have uc1 := roomI (k := .u8) (xs := (Lb.set 17 20)) hoff (i := 18) (by rw [List.length_set]; omega)
  have vc1 : List.take (ho + 18) (pre ++ ints .u8 (Lb.set 17 20)) ++ [.int .u8 4] ++ List.drop (ho + 18 + 1) (pre ++ ints .u8 (Lb.set 17 20)) = pre ++ ints .u8 ((Lb.set 17 20).set 18 4) := tc1
  have hgc : (Xb.set b0 (.row true 1 (pre ++ ints .u8 (Lb.set 17 20))))[b0]? = some (.row true 1 (pre ++ ints .u8 (Lb.set 17 20))) := List.getElem?_set_self (List.getElem?_eq_some_iff.1 hget).1
  simp (disch := omega) only [push_cast, ↓reduceIte, reduceCtorEq, Nat.reduceAdd, Nat.reduceMul, Nat.reduceLeDiff, Nat.reduceLT, Nat.reduceSub, Int.reduceNe, Int.reduceEq, Int.reduceLE, Int.reduceLT, Int.reduceToNat, hget, tc0, uc0, vc0, tc1, uc1, vc1, hgc, List.set_set, Option.some.injEq, exists_eq_left', Blk.put, Blk.ours, Blk.cells]
  (repeat (first | refine st ?_ | refine σa ?_ | (refine σb ?_; simp (disch := omega) only [push_cast, ↓reduceIte, reduceCtorEq, ν1, ν2, ν3, ν4, ν5, ζ1, ζ2, ζ3, ζ4, ζ5, hget, tc0, uc0, vc0, tc1, uc1, vc1, hgc, List.set_set, Option.some.injEq, exists_eq_left', Blk.put, Blk.ours, Blk.cells])))
  have eLc : ((Lb.set 17 20).set 18 4) = List.replicate 16 255 ++ [0, 20, 4] := by rw [hLb]; rfl
  obtain ⟨Lc, hLc⟩ : ∃ L, L = List.replicate 16 (255 : Int) ++ [0, 20, 4] := ⟨_, rfl⟩
  have llc : Lc.length = 19 := by rw [hLc]; rfl
  rw [← hLc] at eLc e3
  rw [eLc]
  have hsetc := ownI (k := .u8) (xs := Lc) (M := Xb.set b0 (.row true 1 (pre ++ ints .u8 Lc))) (b := b0) (off := ho) (c := hcp) (pre := pre) (List.getElem?_set_self (List.getElem?_eq_some_iff.1 hget).1) hoff hc0 (by omega)
  have Fsc := Fr.set Xb b0 (.row true 1 (pre ++ ints .u8 Lc))
  have wc := wb.keep Fsc (fun b h hx => by have := hwb b h; simp at hx; omega)
  have Fc : Fr M _ [] := (Fb.trans Fsc).cut (fun c hc hlt => by simp at hc; omega)
  rw [llc] at hsetc
  have Ba := Ba.keep Fsc (by simp; omega)
  have Bb := Bb.keep Fsc (by simp; omega)
  have hbc : ∀ x ∈ Lc, 0 ≤ x ∧ x ≤ 255 := by rw [hLc]; decide
  have hb0lt := (List.getElem?_eq_some_iff.1 hget).1
  clear hget
  refine mreadK hsetc.sl (by omega) hbc e3 fun Nc g a c nw d fc _ oc _ _ => ?_
  (repeat (first | refine st ?_ | refine σa ?_ | (refine σb ?_; simp (disch := omega) only [push_cast, ↓reduceIte, reduceCtorEq, ν1, ν2, ν3, ν4, ν5, ζ1, ζ2, ζ3, ζ4, ζ5, mvL_len, oc, mem2E, List.drop_nil, List.append_nil, memE, boxE, boxE])))
  have Pc := Fr.push2 Nc (.box (mvL MV.zero g a c nw d)) (.box [.int .i64 1, .int .i64 2])
  have Bc := At.push (Nc ++ [.box (mvL MV.zero g a c nw d)]) (.box [.int .i64 1, .int .i64 2])
  have hgs : (Xb.set b0 (.row true 1 (pre ++ ints .u8 Lc)))[b0]? = some (.row true 1 (pre ++ ints .u8 Lc)) := List.getElem?_set_self (by simpa using hb0lt)
  have hget := ((fc.tr Pc).2 b0 (List.getElem?_eq_some_iff.1 hgs).1 (by simp)).trans hgs
  have wc := (wc.keep fc (by simp)).keep Pc (by simp)
  have Fc := (Fc.tr fc).tr Pc
  have Ba := (Ba.keep fc (by simp)).keep Pc (by simp)
  have Bb := (Bb.keep fc (by simp)).keep Pc (by simp)
  have hb0lt := (List.getElem?_eq_some_iff.1 hget).1
  rw [List.length_append, List.length_singleton] at Bc
  generalize hbxc : Nc.length + 1 = xc at *
  have hxc : b0 < xc := by rw [← hbxc]; have := (List.getElem?_eq_some_iff.1 hgs).1; have := fc.1; simp; omega
  clear hgs hsetc fc Pc Fsc hbxc
  generalize Nc ++ [Blk.box (mvL MV.zero g a c nw d)] ++ [Blk.box [.int .i64 1, .int .i64 2]] = Xc at *
  obtain ⟨w15, h15', p15⟩ := wc.pcTo 15 (by omega)
  have h15 : aslice w 1 none (some (.int .i64 15)) none = some w15 := h15'
  have hz := wc.sz
  have e15 : L0.take 15 = List.replicate 15 255 := by rw [hL0]; rfl
  have p15s := p15.sl
  rw [e15] at p15s
  simp (disch := omega) only [push_cast, ↓reduceIte, reduceCtorEq, Nat.reduceAdd, Nat.reduceMul, Nat.reduceLeDiff, Nat.reduceLT, Nat.reduceSub, Int.reduceNe, Int.reduceEq, Int.reduceLE, Int.reduceLT, Int.reduceToNat, h15, hz, Option.map_none, Option.map_some]
  (repeat (first | refine st ?_ | refine σa ?_ | (refine σb ?_; simp (disch := omega) only [push_cast, ↓reduceIte, reduceCtorEq, ν1, ν2, ν3, ν4, ν5, ζ1, ζ2, ζ3, ζ4, ζ5, h15, hz, Option.map_none, Option.map_some])))
  refine mreadK p15s (by decide) (by decide) e4 fun Nd g a c nw d fd _ od _ _ => ?_
  have Pd := Fr.push2 Nd (.box (mvL MV.zero g a c nw d)) (.box [.int .i64 0, .int .i64 0])
  have Ba := (Ba.keep fd (by simp)).keep Pd (by simp)
  have Bb := (Bb.keep fd (by simp)).keep Pd (by simp)
  have Bc := (Bc.keep fd (by simp)).keep Pd (by simp)
  have q1 : decide ((1 : Int) = 1 ∧ (2 : Int) = 2) = true := rfl
  have q2 : decide ((1 : Int) = 1 ∧ (3 : Int) = 3) = true := rfl
  have q3 : decide ((0 : Int) = 0) = true := rfl
  have q4 : decide ((0 : Int) = 0 ∧ (0 : Int) = 0) = true := rfl
  (repeat (first | refine st ?_ | refine σa ?_ | (refine σb ?_; simp (disch := omega) only [push_cast, ↓reduceIte, reduceCtorEq, ν1, ν2, ν3, ν4, ν5, ζ1, ζ2, ζ3, ζ4, ζ5, mvL_len, od, mem2E, Ba.ld, Bb.ld, Bc.ld, ft_eq, aggB, q1, q2, q3, q4, List.drop_nil, List.append_nil, memE, boxE, boxE, buildE])))
  ((first | refine retA.ret (by rfl) ?_ | refine retA.normal (by rfl) ?_); simp (disch := omega) only [push_cast, ↓reduceIte, reduceCtorEq, Nat.reduceAdd, Nat.reduceMul, Nat.reduceLeDiff, Nat.reduceLT, Nat.reduceSub, Int.reduceNe, Int.reduceEq, Int.reduceLE, Int.reduceLT, Int.reduceToNat])
  exact (Fc.tr fd).tr Pd

end Go.Proofs.Ytbdejnnbpdgjlaa.Ax

namespace Go.Proofs.Ytbdejnnbpdgjlaa.Ax
open Go Go.RowKit
set_option linter.unusedVariables false
set_option linter.unusedSimpArgs false
set_option maxRecDepth 100000
set_option maxHeartbeats 20000000
/-! what comes in, kind by kind; structs by their fields -/
def KInt (k : IntKind) (M : Mem) (acs : List Value) : Prop := ∃ n, (Lit.int k n).wf = true ∧ acs = [.int k n]
def KBool (M : Mem) (acs : List Value) : Prop := ∃ b, acs = [.bool b]
def KSl (k : IntKind) (M : Mem) (acs : List Value) : Prop := ∃ v xs, acs = [v] ∧ (∀ x ∈ xs, (Lit.int k x).wf = true) ∧ xs.length ≤ maxLen ∧ Sl M v 1 (ints k xs)
def Keeps (K : Mem → List Value → Prop) : Prop := ∀ M Y acs, K M acs → K (M ++ Y) acs
def KAll : List (Mem → List Value → Prop) → Mem → List Value → Prop
  | [], _, acs => acs = []
  | K :: Ks, M, acs => ∃ a b, acs = a ++ b ∧ K M a ∧ KAll Ks M b
theorem KInt.keeps (k : IntKind) : Keeps (KInt k) := fun _ _ _ h => h
theorem KBool.keeps : Keeps KBool := fun _ _ _ h => h
theorem KSl.keeps (k : IntKind) : Keeps (KSl k) := fun M Y acs ⟨v, xs, h1, h2, h3, h4⟩ => ⟨v, xs, h1, h2, h3, h4.app Y⟩
def KeepsAll : List (Mem → List Value → Prop) → Prop
  | [] => True
  | K :: Ks => Keeps K ∧ KeepsAll Ks
theorem KAll.keeps : ∀ {Ks : List (Mem → List Value → Prop)}, KeepsAll Ks → Keeps (KAll Ks)
  | [], _ => fun _ _ _ h => h
  | K :: Ks, ⟨h1, h2⟩ => fun M Y acs ⟨a, b, e, k1, k2⟩ => ⟨a, b, e, h1 M Y a k1, KAll.keeps h2 M Y b k2⟩
section
variable {P : Program} {W : World} {t e : TypeId}
theorem flatMap_ints (k : IntKind) (xs : List Int) : xs.flatMap (fun n => [Value.int k n]) = ints k xs := by
  induction xs with
  | nil => rfl
  | cons x xs ih => rw [List.flatMap_cons, ih]; rfl
theorem rd_sl {k : IntKind} (ht : P.underlying t = some (.slice e)) (he : P.cellsOf e = 1) (hu : P.underlying e = some (.int k)) : Reads P W t (KSl k) := by
  intro H en base held n cs x hx ι N0 M hN hm
  obtain ⟨ι', X, acs, h1, h2, h3, v, xs, h4, h5, h6, h7⟩ := reads_slice ht he (by omega) (flat_int (W := W) hu) (fun y => by rfl) (fun y => by rfl) (fun y => by rfl) H en base held n cs x hx ι N0 M hN hm
  rw [flatMap_ints] at h7
  exact ⟨ι', X, acs, h1, h2, h3, v, xs, h4, h5, h6, h7⟩
theorem wf_u8 {x : Int} (h : (Lit.int .u8 x).wf = true) : 0 ≤ x ∧ x ≤ 255 := by simp [Lit.wf, IntKind.min, IntKind.max, IntKind.signed, IntKind.bits] at h; omega
/-- The fields lie one behind the other. -/
def offsB (P : Program) : Nat → List Field → Nat → Bool
  | o, [], n => o == n
  | o, f :: l, n => f.offset == o && offsB P (o + P.cellsOf f.type) l n
end
/-! slices of structs of numbers -/
def zipI : List IntKind → List Int → List Value
  | [], _ => []
  | k :: ks, ns => .int k (ns.headD 0) :: zipI ks ns.tail
def goodI : List IntKind → List Int → Prop
  | [], ns => ns = []
  | k :: ks, ns => (Lit.int k (ns.headD 0)).wf = true ∧ ns ≠ [] ∧ goodI ks ns.tail
theorem zipI_append : ∀ (ks ls : List IntKind) (ns ms : List Int), goodI ks ns → zipI (ks ++ ls) (ns ++ ms) = zipI ks ns ++ zipI ls ms
  | [], ls, ns, ms, h => by cases h; rfl
  | k :: ks, ls, ns, ms, ⟨_, hne, h⟩ => by
    cases ns with
    | nil => exact absurd rfl hne
    | cons n ns => simp only [List.cons_append, zipI, List.headD_cons, List.tail_cons, zipI_append ks ls ns ms h]
theorem goodI_append : ∀ {ks ls : List IntKind} {ns ms : List Int}, goodI ks ns → goodI ls ms → goodI (ks ++ ls) (ns ++ ms)
  | [], ls, ns, ms, h, h' => by cases h; exact h'
  | k :: ks, ls, ns, ms, ⟨hw, hne, h⟩, h' => by
    cases ns with
    | nil => exact absurd rfl hne
    | cons n ns => exact ⟨hw, by simp, goodI_append h h'⟩
def FK (P : Program) (W : World) (t : TypeId) (ks : List IntKind) : Prop := FlatR P W t (zipI ks) (goodI ks)
section
variable {P : Program} {W : World} {t e : TypeId}
theorem FK.int {k : IntKind} (ht : P.underlying t = some (.int k)) : FK P W t [k] := by
  intro H en base spare held n cs x h
  obtain ⟨m, rfl, _, hw⟩ := DataW.trod_int ht h
  exact ⟨[m], ⟨hw, by simp, rfl⟩, rfl⟩
def FKs (P : Program) (W : World) : List Field → List (List IntKind) → Prop
  | [], [] => True
  | f :: l, k :: ks => FK P W f.type k ∧ FKs P W l ks
  | _, _ => False
theorem fk_fields {H : Type} {en : TypeId × Value → H} {base : Nat} {spare : Nat → Bool} {held : Bool} {m : Nat} {cs : List Value} : ∀ (l : List Field) (ks : List (List IntKind)) (o : Nat), FKs P W l ks → offsB P o l cs.length = true →
    (∀ f ∈ l, ∃ x, DataW.trod en P W base spare held m f.type ((cs.drop f.offset).take (P.cellsOf f.type)) = some x) →
    ∃ ns, goodI ks.flatten ns ∧ cs.drop o = zipI ks.flatten ns
  | [], [], o, _, ho, _ => by
    have ho' : o = cs.length := by simpa [offsB] using ho
    exact ⟨[], rfl, by rw [ho', List.drop_length]; rfl⟩
  | f :: l, k :: ks, o, ⟨h1, h3⟩, ho, hx => by
    simp only [offsB, Bool.and_eq_true, beq_iff_eq] at ho
    obtain ⟨x, hx0⟩ := hx f (by simp)
    obtain ⟨n1, g1, e1⟩ := h1 H en base spare held m _ x hx0
    obtain ⟨n2, g2, e2⟩ := fk_fields l ks _ h3 ho.2 (fun g hg => hx g (List.mem_cons_of_mem _ hg))
    refine ⟨n1 ++ n2, by rw [List.flatten_cons]; exact goodI_append g1 g2, ?_⟩
    rw [List.flatten_cons, zipI_append _ _ _ _ g1, ← e1, ← e2, ho.1, ← List.drop_drop, List.take_append_drop]
  | [], _ :: _, _, h, _, _ => h.elim
  | _ :: _, [], _, h, _, _ => h.elim
theorem FK.struct {fs : Array Field} {ks : List (List IntKind)} (ht : P.underlying t = some (.struct fs)) (hs : offsB P 0 fs.toList (P.cellsOf t) = true) (hr : FKs P W fs.toList ks) : FK P W t ks.flatten := by
  intro H en base spare held n cs x hx
  obtain ⟨xs, m, _, _, hlen, hxl, hf⟩ := DataW.trod_struct ht hx
  obtain ⟨ns, h1, h2⟩ := fk_fields (en := en) (base := base) (spare := spare) (held := held) (m := m) (cs := cs) fs.toList ks 0 hr (by rw [hlen]; exact hs) (fun f hf' => by
    obtain ⟨i, hi, e⟩ := List.mem_iff_getElem.1 hf'
    have hg : fs[i]? = some f := by rw [← Array.getElem?_toList, List.getElem?_eq_getElem hi, e]
    have hi' : i < xs.length := by rw [hxl]; simpa using hi
    exact ⟨xs[i], by rw [hf i f hg, List.getElem?_eq_getElem hi']⟩)
  exact ⟨ns, h1, by simpa using h2⟩
/-- A slice of structs of numbers. -/
def KSs (ks : List IntKind) (M : Mem) (acs : List Value) : Prop := ∃ (v : Value) (xs : List (List Int)), acs = [v] ∧ (∀ x ∈ xs, goodI ks x) ∧ xs.length ≤ maxLen ∧ Sl M v ks.length (xs.flatMap (zipI ks))
theorem KSs.keeps (ks : List IntKind) : Keeps (KSs ks) := fun M Y acs ⟨v, xs, h1, h2, h3, h4⟩ => ⟨v, xs, h1, h2, h3, h4.app Y⟩
end

end Go.Proofs.Ytbdejnnbpdgjlaa.Ax

namespace Go.Proofs.Ytbdejnnbpdgjlaa.Ax
open Go Go.RowKit
set_option linter.unusedVariables false
set_option linter.unusedSimpArgs false
set_option maxRecDepth 100000
def In39 (M : Mem) (v : Value) : Prop := (KSl .u8) M [v]
end Go.Proofs.Ytbdejnnbpdgjlaa.Ax

namespace Go.Proofs.Ytbdejnnbpdgjlaa.Ax
open Go Go.RowKit
open Nat renaming reduceAdd → ν1, reduceMul → ν2, reduceLeDiff → ν3, reduceLT → ν4, reduceSub → ν5
open Int renaming reduceNe → ζ1, reduceEq → ζ2, reduceLE → ζ3, reduceLT → ζ4, reduceToNat → ζ5
set_option linter.unusedVariables false
set_option linter.unusedSimpArgs false
set_option maxRecDepth 100000
set_option maxHeartbeats 20000000
attribute [local irreducible] thenA blockA scopeA retA AL AW AD ADL AH clrK CallA apure aload bload appK ptrK fnK ares szOk planOk okOps
theorem eqB (a b : Bool) : abin2 Try.prog .eql 4 (.bool a) (.bool b) = some (.bool (a == b)) := by kernel_rfl
def enc2 (p : Int × Int) : List Value := [.int .i64 p.1, .int .i64 p.2]
theorem cut2 : ∀ (l : List (Int × Int)) (i : Nat), i < l.length → ((l.flatMap enc2).drop (i * 2)).take 2 = enc2 (l.getD i (0, 0))
  | [], _, h => absurd h (Nat.not_lt_zero _)
  | p :: l, 0, _ => rfl
  | p :: l, i + 1, h => by
    have := cut2 l i (by simpa using h)
    rw [List.flatMap_cons, Nat.add_mul, Nat.one_mul, List.drop_append, show (enc2 p).length = 2 from rfl, List.drop_of_length_le (by show 2 ≤ _; omega), List.nil_append, Nat.add_sub_cancel, this]
    rfl
def codesL : List (Int × Int) := [(1, 1), (1, 2), (1, 3), (2, 0), (2, 1), (2, 2), (2, 3), (2, 4), (2, 6), (2, 7), (3, 1), (3, 2), (3, 3), (3, 4), (3, 5), (3, 6), (3, 8), (3, 9)]
theorem ap2 (cs : List Value) (o : Nat) : apart1 Try.prog 67 cs o = some (.agg ⟨(cs.drop o).take 2⟩) := by kernel_rfl
theorem codes_build : abuild Try.prog 68 [(0, .agg ⟨[.int .i64 1, .int .i64 1]⟩), (1, .agg ⟨[.int .i64 1, .int .i64 2]⟩), (2, .agg ⟨[.int .i64 1, .int .i64 3]⟩), (3, .agg ⟨[.int .i64 2, .int .i64 0]⟩), (4, .agg ⟨[.int .i64 2, .int .i64 1]⟩), (5, .agg ⟨[.int .i64 2, .int .i64 2]⟩), (6, .agg ⟨[.int .i64 2, .int .i64 3]⟩), (7, .agg ⟨[.int .i64 2, .int .i64 4]⟩), (8, .agg ⟨[.int .i64 2, .int .i64 6]⟩), (9, .agg ⟨[.int .i64 2, .int .i64 7]⟩), (10, .agg ⟨[.int .i64 3, .int .i64 1]⟩), (11, .agg ⟨[.int .i64 3, .int .i64 2]⟩), (12, .agg ⟨[.int .i64 3, .int .i64 3]⟩), (13, .agg ⟨[.int .i64 3, .int .i64 4]⟩), (14, .agg ⟨[.int .i64 3, .int .i64 5]⟩), (15, .agg ⟨[.int .i64 3, .int .i64 6]⟩), (16, .agg ⟨[.int .i64 3, .int .i64 8]⟩), (17, .agg ⟨[.int .i64 3, .int .i64 9]⟩)] = some (.agg ⟨codesL.flatMap enc2⟩) := by kernel_rfl
theorem msgCodes_in (M : Mem) (v0 : Value) (h0 : In39 M v0) : CallA Try.prog 8 [v0] M fun r _ => r = .bool true := by
  obtain ⟨v, xs, e, hb, hx, hv⟩ := h0
  cases e
  have hb := fun x h => wf_u8 (hb x h)
  (refine CallA.of_body Try.func8 rfl (by rfl) ?_; simp only [Try.ntmps8, List.length_cons, List.length_nil, List.replicate, List.cons_append, List.nil_append, Nat.reduceSub, Nat.reduceAdd])
  (repeat (first | refine st ?_ | refine σa ?_ | (refine σb ?_; simp (disch := omega) only [push_cast, ↓reduceIte, reduceCtorEq, ν1, ν2, ν3, ν4, ν5, ζ1, ζ2, ζ3, ζ4, ζ5])))
  refine (alive25_spec _).mono ?_
  rintro r M1 ⟨F1, rfl⟩
  have hv1 := hv.keep F1 (by simp)
  have hs := hv1.isSl
  have hn := hv1.lnI
  by_cases c : xs.length ≤ 10000
  rotate_left
  · have d : decide ((xs.length : Int) > 10000) = true := decide_eq_true (by omega)
    (repeat (first | refine st ?_ | refine σa ?_ | (refine σb ?_; simp (disch := omega) only [push_cast, ↓reduceIte, reduceCtorEq, ν1, ν2, ν3, ν4, ν5, ζ1, ζ2, ζ3, ζ4, ζ5, hs, hn, d, Bool.not_true])))
    ((first | refine retA.ret (by rfl) ?_ | refine retA.normal (by rfl) ?_); simp (disch := omega) only [push_cast, ↓reduceIte, reduceCtorEq, Nat.reduceAdd, Nat.reduceMul, Nat.reduceLeDiff, Nat.reduceLT, Nat.reduceSub, Int.reduceNe, Int.reduceEq, Int.reduceLE, Int.reduceLT, Int.reduceToNat])
  have d : decide ((xs.length : Int) > 10000) = false := decide_eq_false (by omega)
  (repeat (first | refine st ?_ | refine σa ?_ | (refine σb ?_; simp (disch := omega) only [push_cast, ↓reduceIte, reduceCtorEq, ν1, ν2, ν3, ν4, ν5, ζ1, ζ2, ζ3, ζ4, ζ5, hs, hn, d, Bool.not_true])))
  obtain ⟨m, n, q1, q2, hR⟩ : ∃ m n q1 q2, readM xs = (m, n, (q1, q2)) := ⟨_, _, _, _, rfl⟩
  refine mreadK hv1 (by omega) hb hR fun M2 g a c nw d f2 _ o2 _ _ => ?_
  rcases readM_cases hb with h | ⟨m', h, g1, g2, g3, g4, g5, _, _⟩ | ⟨⟨p1, p2⟩, h, hne, hcs, _⟩
  · rw [hR] at h
    cases h
    have d1 : decide ((0 : Int) = 0 ∧ (0 : Int) = 0) = true := rfl
    have d2 : decide ((0 : Int) ≥ 0) = true := rfl
    have d3 : decide ((0 : Int) ≤ (xs.length : Int)) = true := decide_eq_true (by omega)
    have d4 : decide ((0 : Int) > 0) = false := rfl
    have ek : MV.zero.kind = 0 := rfl
    have d5 : (false == false) = true := rfl
    (repeat (first | refine st ?_ | refine σa ?_ | (refine σb ?_; simp (disch := omega) only [push_cast, ↓reduceIte, reduceCtorEq, ν1, ν2, ν3, ν4, ν5, ζ1, ζ2, ζ3, ζ4, ζ5, mvL_len, mvL_ld, o2, mem2E, hs, hn, ek, ft_eq, aggB, eqB, d1, d2, d3, d4, d5, List.drop_nil, List.append_nil, Bool.not_true, Bool.not_false, memE, boxE, boxE, buildE])))
    ((first | refine retA.ret (by rfl) ?_ | refine retA.normal (by rfl) ?_); simp (disch := omega) only [push_cast, ↓reduceIte, reduceCtorEq, Nat.reduceAdd, Nat.reduceMul, Nat.reduceLeDiff, Nat.reduceLT, Nat.reduceSub, Int.reduceNe, Int.reduceEq, Int.reduceLE, Int.reduceLT, Int.reduceToNat])
  · rw [hR] at h
    cases h
    obtain ⟨n, hn'⟩ : ∃ n, n = pairAt xs 16 := ⟨_, rfl⟩
    rw [← hn'] at g1 g2 g3 ⊢
    have d1 : decide ((0 : Int) = 0 ∧ (0 : Int) = 0) = true := rfl
    have d2 : decide (n ≥ 0) = true := decide_eq_true (by omega)
    have d3 : decide (n ≤ (xs.length : Int)) = true := decide_eq_true (by omega)
    have d4 : decide (n > 0) = true := decide_eq_true (by omega)
    have d6 : decide (m.kind > 0) = true := decide_eq_true (by omega)
    have d5 : (true == true) = true := rfl
    (repeat (first | refine st ?_ | refine σa ?_ | (refine σb ?_; simp (disch := omega) only [push_cast, ↓reduceIte, reduceCtorEq, ν1, ν2, ν3, ν4, ν5, ζ1, ζ2, ζ3, ζ4, ζ5, mvL_len, mvL_ld, o2, mem2E, hs, hn, ft_eq, aggB, eqB, d1, d2, d3, d4, d5, d6, List.drop_nil, List.append_nil, Bool.not_true, Bool.not_false, memE, boxE, boxE, buildE])))
    ((first | refine retA.ret (by rfl) ?_ | refine retA.normal (by rfl) ?_); simp (disch := omega) only [push_cast, ↓reduceIte, reduceCtorEq, Nat.reduceAdd, Nat.reduceMul, Nat.reduceLeDiff, Nat.reduceLT, Nat.reduceSub, Int.reduceNe, Int.reduceEq, Int.reduceLE, Int.reduceLT, Int.reduceToNat])
  · rw [hR] at h
    cases h
    have d1 : decide (q1 = 0 ∧ q2 = 0) = false := decide_eq_false (fun h => hne (by rw [h.1, h.2]))
    have d2 : decide ((0 : Int) = 0) = true := rfl
    have ek : MV.zero.kind = 0 := rfl
    (repeat (first | refine st ?_ | refine σa ?_ | (refine σb ?_; simp (disch := omega) only [push_cast, ↓reduceIte, reduceCtorEq, ν1, ν2, ν3, ν4, ν5, ζ1, ζ2, ζ3, ζ4, ζ5, mvL_len, mvL_ld, o2, mem2E, hs, hn, ek, ft_eq, aggB, eqB, d1, d2, List.drop_nil, List.append_nil, Bool.not_true, Bool.not_false, memE, boxE, boxE, buildE])))
    have hcb := codes_build
    obtain ⟨CS, hCS⟩ : ∃ CS, CS = codesL.flatMap enc2 := ⟨_, rfl⟩
    rw [← hCS] at hcb
    have P2 := Fr.push2 M2 (.box (mvL MV.zero g a c nw d)) (.box [.int .i64 q1, .int .i64 q2])
    have B2 := At.push (M2 ++ [.box (mvL MV.zero g a c nw d)]) (.box [.int .i64 q1, .int .i64 q2])
    rw [List.length_append, List.length_singleton] at B2
    simp (disch := omega) only [push_cast, ↓reduceIte, reduceCtorEq, Nat.reduceAdd, Nat.reduceMul, Nat.reduceLeDiff, Nat.reduceLT, Nat.reduceSub, Int.reduceNe, Int.reduceEq, Int.reduceLE, Int.reduceLT, Int.reduceToNat, hcb]
    generalize M2 ++ [Blk.box (mvL MV.zero g a c nw d)] ++ [Blk.box [.int .i64 q1, .int .i64 q2]] = M3 at *
    obtain ⟨s, hs⟩ : ∃ s, s = M2.length + 1 := ⟨_, rfl⟩
    rw [← hs] at B2 ⊢
    (repeat (first | refine st ?_ | refine σa ?_ | (refine σb ?_; simp (disch := omega) only [push_cast, ↓reduceIte, reduceCtorEq, ν1, ν2, ν3, ν4, ν5, ζ1, ζ2, ζ3, ζ4, ζ5])))
    refine AW.loopF [2, 7, 64, 65, 66, 67, 68, 69, 70, 71, 72, 73, 74, 75, 76, 77, 78, 79] (fun n g M' => ∃ i : Nat, g 64 = .int .i64 (i : Int) ∧ n = 18 - i ∧ i ≤ 18 ∧ (∀ j, j < i → codesL.getD j (0, 0) ≠ (q1, q2)) ∧ At M' s (.box [.int .i64 q1, .int .i64 q2])) 18 ?_ ?_
    · exact ⟨0, rfl, rfl, by omega, by simp, B2⟩
    rintro n g M4 ⟨i, hi, hn, hi18, hno, B4⟩
    simp (disch := omega) only [push_cast, ↓reduceIte, reduceCtorEq, Nat.reduceAdd, Nat.reduceMul, Nat.reduceLeDiff, Nat.reduceLT, Nat.reduceSub, Int.reduceNe, Int.reduceEq, Int.reduceLE, Int.reduceLT, Int.reduceToNat, hi]
    by_cases ci : i < 18
    · have dl : decide ((i : Int) < 18) = true := decide_eq_true (by omega)
      have wi : IntKind.i64.wrap ((i : Int) + 1) = i + 1 := w_i64 (by omega) (by omega)
      have eti : ((i : Nat) : Int).toNat = i := Int.toNat_natCast i
      have hcut : (CS.drop (i * 2)).take 2 = enc2 (codesL.getD i (0, 0)) := by rw [hCS]; exact cut2 _ _ ci
      have li : (i : Int) < 18 := by omega
      obtain ⟨⟨y1, y2⟩, hy⟩ : ∃ y, y = codesL.getD i (0, 0) := ⟨_, rfl⟩
      rw [← hy] at hcut
      have hr2 : List.replicate 2 (Value.int .i64 0) = [.int .i64 0, .int .i64 0] := rfl
      have Px := Fr.push M4 (.box [.int .i64 y1, .int .i64 y2])
      have B5 := B4.keep Px (by simp)
      by_cases c1 : q1 = y1
      · have e1 : decide (q1 = y1) = true := decide_eq_true c1
        by_cases c2 : q2 = y2
        · have e2 : decide (q2 = y2) = true := decide_eq_true c2
          (repeat (first | refine st ?_ | refine σa ?_ | (refine σb ?_; simp (disch := omega) only [push_cast, ↓reduceIte, reduceCtorEq, ν1, ν2, ν3, ν4, ν5, ζ1, ζ2, ζ3, ζ4, ζ5, dl, li, eti, ap2, hcut, hr2, B5.ld, enc2, e1, e2, List.drop_nil, List.append_nil, memE, boxE, boxE])))
          ((first | refine retA.ret (by rfl) ?_ | refine retA.normal (by rfl) ?_); simp (disch := omega) only [push_cast, ↓reduceIte, reduceCtorEq, Nat.reduceAdd, Nat.reduceMul, Nat.reduceLeDiff, Nat.reduceLT, Nat.reduceSub, Int.reduceNe, Int.reduceEq, Int.reduceLE, Int.reduceLT, Int.reduceToNat])
        · have e2 : decide (q2 = y2) = false := decide_eq_false c2
          (repeat (first | refine st ?_ | refine σa ?_ | (refine σb ?_; simp (disch := omega) only [push_cast, ↓reduceIte, reduceCtorEq, ν1, ν2, ν3, ν4, ν5, ζ1, ζ2, ζ3, ζ4, ζ5, dl, li, eti, ap2, hcut, hr2, B5.ld, enc2, e1, e2, wi, List.drop_nil, List.append_nil, memE, boxE, boxE])))
          refine ⟨rfl, 18 - (i + 1), by omega, i + 1, by push_cast; rfl, rfl, by omega, ?_, B5⟩
          intro j hj
          rcases Nat.lt_succ_iff_lt_or_eq.1 hj with h | rfl
          · exact hno j h
          · rw [← hy]; intro e; cases e; exact c2 rfl
      · have e1 : decide (q1 = y1) = false := decide_eq_false c1
        (repeat (first | refine st ?_ | refine σa ?_ | (refine σb ?_; simp (disch := omega) only [push_cast, ↓reduceIte, reduceCtorEq, ν1, ν2, ν3, ν4, ν5, ζ1, ζ2, ζ3, ζ4, ζ5, dl, li, eti, ap2, hcut, hr2, B5.ld, enc2, e1, wi, List.drop_nil, List.append_nil, memE, boxE, boxE])))
        refine ⟨rfl, 18 - (i + 1), by omega, i + 1, by push_cast; rfl, rfl, by omega, ?_, B5⟩
        intro j hj
        rcases Nat.lt_succ_iff_lt_or_eq.1 hj with h | rfl
        · exact hno j h
        · rw [← hy]; intro e; cases e; exact c1 rfl
    have dl : decide ((i : Int) < 18) = false := decide_eq_false (by omega)
    obtain rfl : i = 18 := by omega
    have h10 : q1 = 3 ∧ (q2 = 10 ∨ q2 = 11) := by
      rcases hcs with ⟨h1, h⟩ | ⟨h1, h⟩ | ⟨h1, h⟩
      · rcases h with h | h | h
        · exact absurd (show codesL.getD 0 (0, 0) = (q1, q2) by simp only at h1 h; rw [h1, h]; rfl) (hno 0 (by omega))
        · exact absurd (show codesL.getD 1 (0, 0) = (q1, q2) by simp only at h1 h; rw [h1, h]; rfl) (hno 1 (by omega))
        · exact absurd (show codesL.getD 2 (0, 0) = (q1, q2) by simp only at h1 h; rw [h1, h]; rfl) (hno 2 (by omega))
      · rcases h with h | h | h | h | h | h | h
        · exact absurd (show codesL.getD 3 (0, 0) = (q1, q2) by simp only at h1 h; rw [h1, h]; rfl) (hno 3 (by omega))
        · exact absurd (show codesL.getD 4 (0, 0) = (q1, q2) by simp only at h1 h; rw [h1, h]; rfl) (hno 4 (by omega))
        · exact absurd (show codesL.getD 5 (0, 0) = (q1, q2) by simp only at h1 h; rw [h1, h]; rfl) (hno 5 (by omega))
        · exact absurd (show codesL.getD 6 (0, 0) = (q1, q2) by simp only at h1 h; rw [h1, h]; rfl) (hno 6 (by omega))
        · exact absurd (show codesL.getD 7 (0, 0) = (q1, q2) by simp only at h1 h; rw [h1, h]; rfl) (hno 7 (by omega))
        · exact absurd (show codesL.getD 8 (0, 0) = (q1, q2) by simp only at h1 h; rw [h1, h]; rfl) (hno 8 (by omega))
        · exact absurd (show codesL.getD 9 (0, 0) = (q1, q2) by simp only at h1 h; rw [h1, h]; rfl) (hno 9 (by omega))
      · rcases h with h | h | h | h | h | h | h | h | h | h
        · exact absurd (show codesL.getD 10 (0, 0) = (q1, q2) by simp only at h1 h; rw [h1, h]; rfl) (hno 10 (by omega))
        · exact absurd (show codesL.getD 11 (0, 0) = (q1, q2) by simp only at h1 h; rw [h1, h]; rfl) (hno 11 (by omega))
        · exact absurd (show codesL.getD 12 (0, 0) = (q1, q2) by simp only at h1 h; rw [h1, h]; rfl) (hno 12 (by omega))
        · exact absurd (show codesL.getD 13 (0, 0) = (q1, q2) by simp only at h1 h; rw [h1, h]; rfl) (hno 13 (by omega))
        · exact absurd (show codesL.getD 14 (0, 0) = (q1, q2) by simp only at h1 h; rw [h1, h]; rfl) (hno 14 (by omega))
        · exact absurd (show codesL.getD 15 (0, 0) = (q1, q2) by simp only at h1 h; rw [h1, h]; rfl) (hno 15 (by omega))
        · exact absurd (show codesL.getD 16 (0, 0) = (q1, q2) by simp only at h1 h; rw [h1, h]; rfl) (hno 16 (by omega))
        · exact absurd (show codesL.getD 17 (0, 0) = (q1, q2) by simp only at h1 h; rw [h1, h]; rfl) (hno 17 (by omega))
        · exact ⟨h1, .inl h⟩
        · exact ⟨h1, .inr h⟩
    obtain ⟨rfl, h10⟩ := h10
    have e3 : decide ((3 : Int) = 3) = true := rfl
    by_cases c10 : q2 = 10
    · have e10 : decide (q2 = 10) = true := decide_eq_true c10
      (repeat (first | refine st ?_ | refine σa ?_ | (refine σb ?_; simp (disch := omega) only [push_cast, ↓reduceIte, reduceCtorEq, ν1, ν2, ν3, ν4, ν5, ζ1, ζ2, ζ3, ζ4, ζ5, dl, B4.ld, e3, e10, Bool.not_true, Bool.not_false, boxE])))
      ((first | refine retA.ret (by rfl) ?_ | refine retA.normal (by rfl) ?_); simp (disch := omega) only [push_cast, ↓reduceIte, reduceCtorEq, Nat.reduceAdd, Nat.reduceMul, Nat.reduceLeDiff, Nat.reduceLT, Nat.reduceSub, Int.reduceNe, Int.reduceEq, Int.reduceLE, Int.reduceLT, Int.reduceToNat])
    · have e10 : decide (q2 = 10) = false := decide_eq_false c10
      have e11 : decide (q2 = 11) = true := decide_eq_true (by omega)
      (repeat (first | refine st ?_ | refine σa ?_ | (refine σb ?_; simp (disch := omega) only [push_cast, ↓reduceIte, reduceCtorEq, ν1, ν2, ν3, ν4, ν5, ζ1, ζ2, ζ3, ζ4, ζ5, dl, B4.ld, e3, e10, e11, Bool.not_true, Bool.not_false, boxE])))
      ((first | refine retA.ret (by rfl) ?_ | refine retA.normal (by rfl) ?_); simp (disch := omega) only [push_cast, ↓reduceIte, reduceCtorEq, Nat.reduceAdd, Nat.reduceMul, Nat.reduceLeDiff, Nat.reduceLT, Nat.reduceSub, Int.reduceNe, Int.reduceEq, Int.reduceLE, Int.reduceLT, Int.reduceToNat])

end Go.Proofs.Ytbdejnnbpdgjlaa.Ax
