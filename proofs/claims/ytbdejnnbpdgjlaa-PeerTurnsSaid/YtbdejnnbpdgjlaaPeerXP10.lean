/- Contracts of functions over the abstract machine. No conditions: lemmas alone. -/
import Derived.Test.YtbdejnnbpdgjlaaPeerXLibD
import Derived.Test.YtbdejnnbpdgjlaaPeerXP0
import Derived.Test.YtbdejnnbpdgjlaaPeerXP9
namespace Go.Proofs.Ytbdejnnbpdgjlaa.Ax
open Go Go.RowKit
open Nat renaming reduceAdd → ν1, reduceMul → ν2, reduceLeDiff → ν3, reduceLT → ν4, reduceSub → ν5
open Int renaming reduceNe → ζ1, reduceEq → ζ2, reduceLE → ζ3, reduceLT → ζ4, reduceToNat → ζ5
set_option linter.unusedVariables false
set_option linter.unusedSimpArgs false
set_option maxRecDepth 100000
set_option maxHeartbeats 20000000
attribute [local irreducible] thenA blockA scopeA retA AL AW AD ADL AH clrK CallA apure aload bload appK ptrK fnK ares szOk planOk okOps
def metL (met : Int → Bool) : List Value := (List.range 256).map fun i : Nat => Value.bool (met (i : Int))
def metU (met : Int → Bool) (k : Int) : Int → Bool := fun i => if i = k then true else met i
def readP (need : Bool) : Nat → List Int → (Int → Bool) → AV → AV × Int
 | 0, _, _, _ => (AV.zero, 0)
 | f + 1, xs, met, a =>
  if xs = [] then (if need && !(met 1 && met 2 && met 3) then (AV.zero, 3) else (a, 0))
  else if ¬ (headP xs ≤ xs.length ∧ headP xs + sizeP xs ≤ xs.length) ∨ met (xs.getD 1 0) = true then (AV.zero, 1)
  else
   let fl := xs.getD 0 0
   let k := xs.getD 1 0
   let rest := xs.drop (headP xs + sizeP xs)
   let v := (xs.drop (headP xs)).take (sizeP xs)
   if flagsP k = 0 then (if fl ≥ 128 then readP need f rest (metU met k) a else (AV.zero, 2))
   else if fl / 64 * 64 ≠ flagsP k ∨ (fl / 32 % 2 = 1 ∧ flagsP k ≠ 192) then (AV.zero, 4)
   else if (takeP a k v).2 = 0 then readP need f rest (metU met k) (takeP a k v).1 else (AV.zero, (takeP a k v).2)
theorem metL_get (met : Int → Bool) {j : Nat} (h : j < 256) : (metL met)[j]? = some (.bool (met j)) := by
 simp [metL, h]
theorem metL_length (met : Int → Bool) : (metL met).length = 256 := by simp [metL]
theorem metL_set (met : Int → Bool) {k : Int} (hk : isByte k) : spl (metL met) k.toNat [.bool true] = metL (metU met k) := by
 have h1 := hk.1
 have h2 := hk.2
 rw [spl_one _ _ _ (by rw [metL_length]; omega)]
 apply List.ext_getElem?
 intro j
 by_cases hj : j < 256
 ·rw [metL_get _ hj, List.getElem?_set]
  by_cases e : k.toNat = j
  ·rw [if_pos e, if_pos (by rw [metL_length]; omega)]
   have : (j : Int) = k := by omega
   simp [metU, this]
  ·rw [if_neg e, metL_get _ hj]
   have : (j : Int) ≠ k := by omega
   simp [metU, this]
 ·rw [List.getElem?_eq_none_iff.2 (by rw [List.length_set, metL_length]; omega), List.getElem?_eq_none_iff.2 (by rw [metL_length]; omega)]
def AVval (M : Mem) (w : Value) (a : AV) : Prop := ∃ p c, w = .agg ⟨[.int .i64 a.origin, p, .int .u32 a.hop, .int .u32 a.med, .int .u32 a.pref, .bool a.hasMed, .bool a.hasPref, c]⟩ ∧ Sl M p 1 (ints .u32 a.path) ∧ Sl M c 1 (ints .u32 a.comms)
def AVnew (lo : Nat) (M : Mem) (w : Value) (a : AV) : Prop := ∃ p c, w = .agg ⟨[.int .i64 a.origin, p, .int .u32 a.hop, .int .u32 a.med, .int .u32 a.pref, .bool a.hasMed, .bool a.hasPref, c]⟩ ∧ Sl M p 1 (ints .u32 a.path) ∧ Sl M c 1 (ints .u32 a.comms) ∧ (∀ b ∈ blkOf p, lo ≤ b) ∧ ∀ b ∈ blkOf c, lo ≤ b
theorem AVnew.val {lo : Nat} {M : Mem} {w : Value} {a : AV} (h : AVnew lo M w a) : AVval M w a := by obtain ⟨p, c, e, h1, h2, _, _⟩ := h; exact ⟨p, c, e, h1, h2⟩
theorem readP_nil (need : Bool) (met : Int → Bool) (a : AV) (f : Nat) : readP need (f + 1) [] met a = if need && !(met 1 && met 2 && met 3) then (AV.zero, 3) else (a, 0) := by rw [readP, if_pos rfl]
theorem readP_cut {need : Bool} {met : Int → Bool} {a : AV} {f : Nat} {ys : List Int} (h : ys ≠ []) (hc : ¬ cutP ys ∨ met (ys.getD 1 0) = true) : readP need (f + 1) ys met a = (AV.zero, 1) := by
 rw [readP, if_neg h]; exact if_pos hc
theorem readP_go {need : Bool} {met : Int → Bool} {a : AV} {f : Nat} {ys : List Int} (h : ys ≠ []) (hc : cutP ys) (hm : met (ys.getD 1 0) = false) : readP need (f + 1) ys met a =
   if flagsP (ys.getD 1 0) = 0 then (if ys.getD 0 0 ≥ 128 then readP need f (ys.drop (headP ys + sizeP ys)) (metU met (ys.getD 1 0)) a else (AV.zero, 2))
   else if ys.getD 0 0 / 64 * 64 ≠ flagsP (ys.getD 1 0) ∨ (ys.getD 0 0 / 32 % 2 = 1 ∧ flagsP (ys.getD 1 0) ≠ 192) then (AV.zero, 4)
   else if (takeP a (ys.getD 1 0) ((ys.drop (headP ys)).take (sizeP ys))).2 = 0 then readP need f (ys.drop (headP ys + sizeP ys)) (metU met (ys.getD 1 0)) (takeP a (ys.getD 1 0) ((ys.drop (headP ys)).take (sizeP ys))).1 else (AV.zero, (takeP a (ys.getD 1 0) ((ys.drop (headP ys)).take (sizeP ys))).2) := by
 rw [readP, if_neg h]; exact if_neg (fun h => by rcases h with h | h; exact h hc; rw [hm] at h; cases h)
theorem readP_fuel {need : Bool} : ∀ {f g : Nat} {xs : List Int} {met : Int → Bool} {a : AV}, xs.length < f → xs.length < g → readP need f xs met a = readP need g xs met a
 | 0, _, _, _, _, h, _ => absurd h (Nat.not_lt_zero _)
 | _, 0, _, _, _, _, h => absurd h (Nat.not_lt_zero _)
 | f + 1, g + 1, xs, met, a, h1, h2 => by
  by_cases h : xs = []
  ·subst h; rw [readP_nil, readP_nil]
  ·by_cases hc : cutP xs ∧ met (xs.getD 1 0) = false
   ·have hp : 0 < xs.length := List.length_pos_iff.2 h
    have hh : 0 < headP xs := by unfold headP; split <;> omega
    have e := fun m b => readP_fuel (need := need) (f := f) (g := g) (xs := xs.drop (headP xs + sizeP xs)) (met := m) (a := b) (by rw [List.length_drop]; omega) (by rw [List.length_drop]; omega)
    rw [readP_go h hc.1 hc.2, readP_go h hc.1 hc.2, e, e]
   ·have hc' : ¬ cutP xs ∨ met (xs.getD 1 0) = true := by
     by_cases c : cutP xs
     ·exact .inr (by cases hm : met (xs.getD 1 0); exact absurd ⟨c, hm⟩ hc; rfl)
     ·exact .inl c
    rw [readP_cut h hc', readP_cut h hc']
theorem read_spec (v : Value) (xs : List Int) (need : Bool) (M : Mem) (hv : Sl M v 1 (ints .u8 xs)) (hx : xs.length ≤ 100000) (hb : ∀ x ∈ xs, 0 ≤ x ∧ x ≤ 255) : CallA Try.prog 89 [v, .bool need] M fun r M' => Fr M M' [] ∧ ∃ w, r = .tuple ⟨[w, .int .i64 (readP need (xs.length + 1) xs (fun _ => false) AV.zero).2]⟩ ∧ AVnew M.length M' w (readP need (xs.length + 1) xs (fun _ => false) AV.zero).1 := by
 (refine CallA.of_body Try.func89 rfl (by rfl) ?_; simp only [Try.ntmps89, List.length_cons, List.length_nil, List.replicate, List.cons_append, List.nil_append, Nat.reduceSub, Nat.reduceAdd])
 (repeat (first | refine st ?_ | refine σa ?_ | (refine σb ?_; simp (disch := omega) only [push_cast, ↓reduceIte, reduceCtorEq, ν1, ν2, ν3, ν4, ν5, ζ1, ζ2, ζ3, ζ4, ζ5])))
 generalize hP : readP need (xs.length + 1) xs (fun _ => false) AV.zero = P0
 refine AW.scopeK 1 0 79 (fun n g M' => g 1 = .bool need ∧ g 4 = .pointer (some ⟨M.length, 0, none⟩) ∧ g 6 = .pointer (some ⟨M.length + 1, 0, none⟩) ∧ ∃ ys, n = ys.length + 1 ∧ Sl M' (g 0) 1 (ints .u8 ys) ∧ ys.length ≤ xs.length ∧ (∀ x ∈ ys, 0 ≤ x ∧ x ≤ 255) ∧ (∀ b ∈ blkOf (g 0), b ∈ blkOf v) ∧ Fr M M' [] ∧ ∃ met, At M' (M.length + 1) (.box (metL met)) ∧ ∃ a p c, At M' M.length (.box [.int .i64 a.origin, p, .int .u32 a.hop, .int .u32 a.med, .int .u32 a.pref, .bool a.hasMed, .bool a.hasPref, c]) ∧ Sl M' p 1 (ints .u32 a.path) ∧ Sl M' c 1 (ints .u32 a.comms) ∧ (∀ b ∈ blkOf p, M.length + 1 < b) ∧ (∀ b ∈ blkOf c, M.length + 1 < b) ∧ P0 = readP need (ys.length + 1) ys met a)
  (fun g M' => g 4 = .pointer (some ⟨M.length, 0, none⟩) ∧ ∃ sub, g 5 = .int .i64 sub ∧ P0 = (AV.zero, sub) ∧ Fr M M' [] ∧ ∃ cs, At M' M.length (.box cs) ∧ cs.length = 8) ?_ ?_ ?_
 ·rintro n g M1 ⟨h1, h4, h6, ys, rfl, hw, hyl, hyb, hblk, hF, met, hm, a, p, c, hat, hp, hc, hpb, hcb, hPy⟩
  show AW _ (.seq _ _) _ _ _
  generalize h0 : g 0 = w at *
  simp (disch := omega) only [push_cast, ↓reduceIte, reduceCtorEq, Nat.reduceAdd, Nat.reduceMul, Nat.reduceLeDiff, Nat.reduceLT, Nat.reduceSub, Int.reduceNe, Int.reduceEq, Int.reduceLE, Int.reduceLT, Int.reduceToNat, lstOf_zero, lstOf_succ, h1, h4, h6, h0]
  have hw1 := hw
  have hop := isSl_one hp.isSl
  have hoc := isSl_one hc.isSl
  simp only [Value.oneCell'] at hop hoc
  have hs := hw1.isSl
  have hn := hw1.lnI
  have hml : ∀ j, j < 256 → aload Try.prog 4 M1 (M.length + 1) j = some (.bool (met j)) := fun j hj => by
   rw [hm.ld]
   have hu : Try.prog.underlying 4 = some .bool := by kernel_rfl
   unfold bload
   rw [hu]
   exact metL_get met hj
  have hm1 : aload Try.prog 4 M1 (M.length + 1) 1 = some (.bool (met 1)) := hml 1 (by omega)
  have hm2 : aload Try.prog 4 M1 (M.length + 1) 2 = some (.bool (met 2)) := hml 2 (by omega)
  have hm3 : aload Try.prog 4 M1 (M.length + 1) 3 = some (.bool (met 3)) := hml 3 (by omega)
  by_cases hne : ys = []
  ·subst hne
   rw [readP_nil] at hPy
   have d0 : decide ((([] : List Int).length : Int) = 0) = true := rfl
   have fin : ∀ b : Bool, P0 = (a, 0) → Fr M M1 [] ∧ ∃ w, (Value.tuple ⟨[.agg ⟨[.int .i64 a.origin, p, .int .u32 a.hop, .int .u32 a.med, .int .u32 a.pref, .bool a.hasMed, .bool a.hasPref, c]⟩, .int .i64 0]⟩) = .tuple ⟨[w, .int .i64 P0.2]⟩ ∧ AVnew M.length M1 w P0.1 :=
    fun _ e => by rw [e]; exact ⟨hF, _, rfl, p, c, rfl, hp, hc, fun b h => by have := hpb b h; omega, fun b h => by have := hcb b h; omega⟩
   cases need with
   | false =>
    (repeat (first | refine st ?_ | refine σa ?_ | (refine σb ?_; simp (disch := omega) only [push_cast, ↓reduceIte, reduceCtorEq, ν1, ν2, ν3, ν4, ν5, ζ1, ζ2, ζ3, ζ4, ζ5, hs, hn, d0, hat.get, hat.ld, hat.same, hop, hoc, boxE])))
    ((first | refine retA.ret (by rfl) ?_ | refine retA.normal (by rfl) ?_); simp (disch := omega) only [push_cast, ↓reduceIte, reduceCtorEq, Nat.reduceAdd, Nat.reduceMul, Nat.reduceLeDiff, Nat.reduceLT, Nat.reduceSub, Int.reduceNe, Int.reduceEq, Int.reduceLE, Int.reduceLT, Int.reduceToNat, hat.ld])
    exact fin true hPy
   | true =>
    have bad : P0 = (AV.zero, 3) → (P0 = (AV.zero, 3) ∧ Fr M M1 [] ∧ ∃ cs, At M1 M.length (.box cs) ∧ cs.length = 8) := fun e => ⟨e, hF, _, hat, rfl⟩
    cases e1 : met 1 with
    | false =>
     rw [e1] at hm1 hPy
     (repeat (first | refine st ?_ | refine σa ?_ | (refine σb ?_; simp (disch := omega) only [push_cast, ↓reduceIte, reduceCtorEq, ν1, ν2, ν3, ν4, ν5, ζ1, ζ2, ζ3, ζ4, ζ5, hs, hn, d0, hm1])))
     exact scopeA.goto rfl 0 (fun k hk => by cases hk; omega) ⟨rfl, .inr ⟨rfl, rfl, 3, rfl, bad (by rw [hPy]; rfl)⟩⟩
    | true =>
     rw [e1] at hm1 hPy
     cases e2 : met 2 with
     | false =>
      rw [e2] at hm2 hPy
      (repeat (first | refine st ?_ | refine σa ?_ | (refine σb ?_; simp (disch := omega) only [push_cast, ↓reduceIte, reduceCtorEq, ν1, ν2, ν3, ν4, ν5, ζ1, ζ2, ζ3, ζ4, ζ5, hs, hn, d0, hm1, hm2])))
      exact scopeA.goto rfl 0 (fun k hk => by cases hk; omega) ⟨rfl, .inr ⟨rfl, rfl, 3, rfl, bad (by rw [hPy]; rfl)⟩⟩
     | true =>
      rw [e2] at hm2 hPy
      cases e3 : met 3 with
      | false =>
       rw [e3] at hm3 hPy
       (repeat (first | refine st ?_ | refine σa ?_ | (refine σb ?_; simp (disch := omega) only [push_cast, ↓reduceIte, reduceCtorEq, ν1, ν2, ν3, ν4, ν5, ζ1, ζ2, ζ3, ζ4, ζ5, hs, hn, d0, hm1, hm2, hm3])))
       exact scopeA.goto rfl 0 (fun k hk => by cases hk; omega) ⟨rfl, .inr ⟨rfl, rfl, 3, rfl, bad (by rw [hPy]; rfl)⟩⟩
      | true =>
       rw [e3] at hm3 hPy
       (repeat (first | refine st ?_ | refine σa ?_ | (refine σb ?_; simp (disch := omega) only [push_cast, ↓reduceIte, reduceCtorEq, ν1, ν2, ν3, ν4, ν5, ζ1, ζ2, ζ3, ζ4, ζ5, hs, hn, d0, hm1, hm2, hm3, hat.get, hat.ld, hat.same, hop, hoc, boxE])))
       ((first | refine retA.ret (by rfl) ?_ | refine retA.normal (by rfl) ?_); simp (disch := omega) only [push_cast, ↓reduceIte, reduceCtorEq, Nat.reduceAdd, Nat.reduceMul, Nat.reduceLeDiff, Nat.reduceLT, Nat.reduceSub, Int.reduceNe, Int.reduceEq, Int.reduceLE, Int.reduceLT, Int.reduceToNat, hat.ld])
       exact fin true hPy
  ·have hcut := cut_spec w ys M1 hw1 hne (by omega) hyb
   have hlen : 0 < ys.length := List.length_pos_iff.2 hne
   have d0 : decide ((ys.length : Int) = 0) = false := decide_eq_false (by omega)
   (repeat (first | refine st ?_ | refine σa ?_ | (refine σb ?_; simp (disch := omega) only [push_cast, ↓reduceIte, reduceCtorEq, ν1, ν2, ν3, ν4, ν5, ζ1, ζ2, ζ3, ζ4, ζ5, hs, hn, d0])))
   refine hcut.mono ?_
   rintro r M2 ⟨rfl, hr⟩
   have bad : P0 = (AV.zero, 1) → (P0 = (AV.zero, 1) ∧ Fr M M2 [] ∧ ∃ cs, At M2 M.length (.box cs) ∧ cs.length = 8) := fun e => ⟨e, hF, _, hat, rfl⟩
   rcases hr with ⟨hc1, w1, w2, rfl, p1, p2⟩ | ⟨hc1, rfl⟩
   ·have bk := getD_byte hyb 1
    have bf := getD_byte hyb 0
    have bk1 := bk.1
    have bk2 := bk.2
    generalize hk : ys.getD 1 0 = k at *
    generalize hfl : ys.getD 0 0 = fl at *
    have hmk : aload Try.prog 4 M2 (M.length + 1) k.toNat = some (.bool (met k)) := by
     have := hml k.toNat (by omega)
     rwa [Int.toNat_of_nonneg bk1] at this
    cases em : met k with
    | true =>
     rw [em] at hmk
     (repeat (first | refine st ?_ | refine σa ?_ | (refine σb ?_; simp (disch := omega) only [push_cast, ↓reduceIte, reduceCtorEq, ν1, ν2, ν3, ν4, ν5, ζ1, ζ2, ζ3, ζ4, ζ5, hmk])))
     exact scopeA.goto rfl 0 (fun k hk => by cases hk; omega) ⟨rfl, .inr ⟨rfl, rfl, 1, rfl, bad (by rw [hPy, readP_cut hne (.inr (by rw [hk]; exact em))])⟩⟩
    | false =>
     rw [em] at hmk
     have hmlt := hm.lt
     have hst := metL_set met bk
     have hml2 := metL_length met
     (repeat (first | refine st ?_ | refine σa ?_ | (refine σb ?_; simp (disch := omega) only [push_cast, ↓reduceIte, reduceCtorEq, ν1, ν2, ν3, ν4, ν5, ζ1, ζ2, ζ3, ζ4, ζ5, hmk, hm.get, hst, hml2, Blk.put, Blk.ours, Blk.cells, Option.some.injEq, exists_eq_left'])))
     refine (flags_spec k _).mono ?_
     rintro r M3 ⟨rfl, rfl⟩
     have hvb := hv.blks
     have hwM : ∀ b ∈ blkOf w, b < M.length := fun b hb => hvb b (hblk b hb)
     have fs := Fr.set M2 (M.length + 1) (.box (metL (metU met k)))
     have hm' := hm.set (.box (metL (metU met k)))
     have hat' := hat.keep fs (by simp)
     have hp' := hp.keep fs (fun b hb hx => by have := hpb b hb; simp at hx; omega)
     have hc' := hc.keep fs (fun b hb hx => by have := hcb b hb; simp at hx; omega)
     have p1' := p1.keep fs (fun b hb hx => by have := hwM b hb; simp at hx; omega)
     have p2' := p2.keep fs (fun b hb hx => by have := hwM b hb; simp at hx; omega)
     have hF' : Fr M (M2.set (M.length + 1) (.box (metL (metU met k)))) [] := (hF.trans fs).cut (by intro x hx hlt; simp at hx; omega)
     rw [readP_go hne hc1 (by rw [hk]; exact em), hk, hfl] at hPy
     clear hcut bad hst hmk hml hm1 hm2 hm3
     generalize M2.set (M.length + 1) (.box (metL (metU met k))) = M3 at *
     have hlt3 := hat'.lt
     have hlm3 := hm'.lt
     have a128 := and128 bf
     have a192 := and192 bf
     have a32 := and32 bf
     have hdl : (ys.drop (headP ys + sizeP ys)).length < ys.length := by
      have hh : 0 < headP ys := by unfold headP; split <;> omega
      rw [List.length_drop]; omega
     have hfu := fun m b => readP_fuel (need := need) (f := ys.length) (g := (ys.drop (headP ys + sizeP ys)).length + 1) (xs := ys.drop (headP ys + sizeP ys)) (met := m) (a := b) (by omega) (by omega)
     rw [hfu, hfu] at hPy
     have back : ∀ (M4 : Mem) (a' : AV) (p' c' : Value), At M4 M.length (.box [.int .i64 a'.origin, p', .int .u32 a'.hop, .int .u32 a'.med, .int .u32 a'.pref, .bool a'.hasMed, .bool a'.hasPref, c']) → Sl M4 p' 1 (ints .u32 a'.path) → Sl M4 c' 1 (ints .u32 a'.comms) → (∀ b ∈ blkOf p', M.length + 1 < b) → (∀ b ∈ blkOf c', M.length + 1 < b) → Fr M3 M4 [M.length] → P0 = readP need ((ys.drop (headP ys + sizeP ys)).length + 1) (ys.drop (headP ys + sizeP ys)) (metU met k) a' →
       ∃ ys', (ys.drop (headP ys + sizeP ys)).length + 1 = ys'.length + 1 ∧ Sl M4 w2 1 (ints .u8 ys') ∧ ys'.length ≤ xs.length ∧ (∀ x ∈ ys', 0 ≤ x ∧ x ≤ 255) ∧ (∀ b ∈ blkOf w2, b ∈ blkOf v) ∧ Fr M M4 [] ∧ ∃ met, At M4 (M.length + 1) (.box (metL met)) ∧ ∃ a p c, At M4 M.length (.box [.int .i64 a.origin, p, .int .u32 a.hop, .int .u32 a.med, .int .u32 a.pref, .bool a.hasMed, .bool a.hasPref, c]) ∧ Sl M4 p 1 (ints .u32 a.path) ∧ Sl M4 c 1 (ints .u32 a.comms) ∧ (∀ b ∈ blkOf p, M.length + 1 < b) ∧ (∀ b ∈ blkOf c, M.length + 1 < b) ∧ P0 = readP need (ys'.length + 1) ys' met a := by
      intro M4 a' p' c' e1 e2 e3 e4 e5 e6 e7
      exact ⟨_, rfl, p2'.sl.keep e6 (fun b hb hx => by have := hwM b (p2'.blk b hb); simp at hx; omega), by omega, fun x hx => hyb x (List.mem_of_mem_drop hx), fun b hb => hblk b (p2'.blk b hb), (hF'.trans e6).cut (by intro x hx hlt; simp at hx; omega), metU met k, hm'.keep e6 (by simp), a', p', c', e1, e2, e3, e4, e5, e7⟩
     have zero : ∀ (M4 : Mem) (cs : List Value) (sub : Int), At M4 M.length (.box cs) → cs.length = 8 → Fr M3 M4 [M.length] → P0 = (AV.zero, sub) → Fr M (M4.set M.length (.box [.int .i64 0, .slice none 0 0, .int .u32 0, .int .u32 0, .int .u32 0, .bool false, .bool false, .slice none 0 0])) [] ∧ ∃ w, (Value.tuple ⟨[.agg ⟨[.int .i64 0, .slice none 0 0, .int .u32 0, .int .u32 0, .int .u32 0, .bool false, .bool false, .slice none 0 0]⟩, .int .i64 sub]⟩) = .tuple ⟨[w, .int .i64 P0.2]⟩ ∧ AVnew M.length (M4.set M.length (.box [.int .i64 0, .slice none 0 0, .int .u32 0, .int .u32 0, .int .u32 0, .bool false, .bool false, .slice none 0 0])) w P0.1 := by
      intro M4 cs sub e1 e2 e3 e4
      rw [e4]
      exact ⟨((hF'.trans e3).trans (Fr.set M4 M.length _)).cut (by intro x hx hlt; simp at hx; omega), _, rfl, _, _, rfl, Sl.nil _ (by omega), Sl.nil _ (by omega), by simp [blkOf], by simp [blkOf]⟩
     have f0 : Fr M3 M3 [M.length] := (Fr.refl M3).cut (by simp)
     by_cases z0 : flagsP k = 0
     ·rw [if_pos z0] at hPy
      have dz : decide (flagsP k = 0) = true := decide_eq_true z0
      by_cases z1 : fl ≥ 128
      ·rw [if_pos z1] at hPy
       have d128 : decide (fl / 128 * 128 = 0) = false := decide_eq_false (by omega)
       (repeat (first | refine st ?_ | refine σa ?_ | (refine σb ?_; simp (disch := omega) only [push_cast, ↓reduceIte, reduceCtorEq, ν1, ν2, ν3, ν4, ν5, ζ1, ζ2, ζ3, ζ4, ζ5, dz, a128, d128, Bool.not_false, Bool.not_true])))
       exact scopeA.goto rfl ((ys.drop (headP ys + sizeP ys)).length + 1) (fun k hk => by cases hk; omega) ⟨rfl, .inl ⟨rfl, rfl, rfl, rfl, back M3 a p c hat' hp' hc' hpb hcb f0 hPy⟩⟩
      ·rw [if_neg z1] at hPy
       have bf1 := bf.1
       have d128 : decide (fl / 128 * 128 = 0) = true := decide_eq_true (by omega)
       (repeat (first | refine st ?_ | refine σa ?_ | (refine σb ?_; simp (disch := omega) only [push_cast, ↓reduceIte, reduceCtorEq, ν1, ν2, ν3, ν4, ν5, ζ1, ζ2, ζ3, ζ4, ζ5, dz, a128, d128, Bool.not_false, Bool.not_true, hat'.get, List.drop_nil, List.append_nil, boxE])))
       ((first | refine retA.ret (by rfl) ?_ | refine retA.normal (by rfl) ?_); simp (disch := omega) only [push_cast, ↓reduceIte, reduceCtorEq, Nat.reduceAdd, Nat.reduceMul, Nat.reduceLeDiff, Nat.reduceLT, Nat.reduceSub, Int.reduceNe, Int.reduceEq, Int.reduceLE, Int.reduceLT, Int.reduceToNat, ld_set, boxE])
       exact zero M3 _ 2 hat' rfl f0 hPy
     ·rw [if_neg z0] at hPy
      have dz : decide (flagsP k = 0) = false := decide_eq_false z0
      by_cases z1 : fl / 64 * 64 = flagsP k
      ·have d192 : decide (flagsP k = flagsP k) = true := decide_eq_true rfl
       have hch : ∀ (sub : Int), (takeP a k (List.take (sizeP ys) (List.drop (headP ys) ys))).2 = sub → ¬ (fl / 64 * 64 ≠ flagsP k ∨ fl / 32 % 2 = 1 ∧ flagsP k ≠ 192) → (sub = 0 → P0 = readP need ((ys.drop (headP ys + sizeP ys)).length + 1) (ys.drop (headP ys + sizeP ys)) (metU met k) (takeP a k (List.take (sizeP ys) (List.drop (headP ys) ys))).1) ∧ (sub ≠ 0 → P0 = (AV.zero, sub)) := by
        intro sub hs hno
        rw [if_neg hno] at hPy
        constructor
        ·intro h0; rw [if_pos (by omega)] at hPy; exact hPy
        ·intro h0; rw [if_neg (by omega), hs] at hPy; exact hPy
       have hvs : ∀ b ∈ blkOf w1, b < M.length := fun b hb => hwM b (p1'.blk b hb)
       have htl : (List.take (sizeP ys) (List.drop (headP ys) ys)).length ≤ 100000 := by rw [List.length_take, List.length_drop]; omega
       have htk := take_spec M.length (M.length + 2) a k w1 (List.take (sizeP ys) (List.drop (headP ys) ys)) M3 ⟨p, c, hat', hp', hc', fun b hb => hpb b hb, fun b hb => hcb b hb⟩ (by omega) (by omega) p1'.sl (fun h => by have := hvs _ h; omega) htl (fun x hx => hyb x (List.mem_of_mem_drop (List.mem_of_mem_take hx)))
       have good : fl / 32 % 2 * 32 = 0 ∨ flagsP k = 192 → ¬ (fl / 64 * 64 ≠ flagsP k ∨ fl / 32 % 2 = 1 ∧ flagsP k ≠ 192) := by omega
       obtain ⟨sub, hsub⟩ : ∃ sub, (takeP a k (List.take (sizeP ys) (List.drop (headP ys) ys))).2 = sub := ⟨_, rfl⟩
       rw [hsub] at htk
       have fin : (fl / 32 % 2 * 32 = 0 ∨ flagsP k = 192) → ∀ K : Value → Mem → Prop, (∀ M4 a' p' c', sub = 0 → At M4 M.length (.box [.int .i64 a'.origin, p', .int .u32 a'.hop, .int .u32 a'.med, .int .u32 a'.pref, .bool a'.hasMed, .bool a'.hasPref, c']) → Sl M4 p' 1 (ints .u32 a'.path) → Sl M4 c' 1 (ints .u32 a'.comms) → (∀ b ∈ blkOf p', M.length + 1 < b) → (∀ b ∈ blkOf c', M.length + 1 < b) → Fr M3 M4 [M.length] → P0 = readP need ((ys.drop (headP ys + sizeP ys)).length + 1) (ys.drop (headP ys + sizeP ys)) (metU met k) a' → K (.int .i64 0) M4) →
         (∀ M4 cs, sub ≠ 0 → At M4 M.length (.box cs) → cs.length = 8 → Fr M3 M4 [M.length] → P0 = (AV.zero, sub) → K (.int .i64 sub) M4) → CallA Try.prog 123 [.pointer (some ⟨M.length, 0, none⟩), .int .u8 k, w1] M3 K := by
        intro hok K k1 k2
        refine htk.mono ?_
        rintro r M4 ⟨hF4, rfl, hz, cs, hcs, hcl⟩
        have hx := hch sub hsub (good hok)
        by_cases h0 : sub = 0
        ·obtain ⟨p', c', e1, e2, e3, e4, e5⟩ := hz h0
         subst h0
         exact k1 M4 _ p' c' rfl e1 e2 e3 (fun b hb => e4 b hb) (fun b hb => e5 b hb) hF4 (hx.1 rfl)
        ·exact k2 M4 cs h0 hcs hcl hF4 (hx.2 h0)
       by_cases z2 : fl / 32 % 2 * 32 = 0
       ·have d32 : decide (fl / 32 % 2 * 32 = 0) = true := decide_eq_true z2
        (repeat (first | refine st ?_ | refine σa ?_ | (refine σb ?_; simp (disch := omega) only [push_cast, ↓reduceIte, reduceCtorEq, ν1, ν2, ν3, ν4, ν5, ζ1, ζ2, ζ3, ζ4, ζ5, dz, a192, z1, d192, a32, d32, Bool.not_false, Bool.not_true])))
        refine fin (.inl z2) _ ?_ ?_
        ·intro M4 a' p' c' hs0 e1 e2 e3 e4 e5 e6 e7
         (repeat (first | refine st ?_ | refine σa ?_ | (refine σb ?_; simp (disch := omega) only [push_cast, ↓reduceIte, reduceCtorEq, ν1, ν2, ν3, ν4, ν5, ζ1, ζ2, ζ3, ζ4, ζ5])))
         exact scopeA.goto rfl ((ys.drop (headP ys + sizeP ys)).length + 1) (fun k hk => by cases hk; omega) ⟨rfl, .inl ⟨rfl, rfl, rfl, rfl, back M4 a' p' c' e1 e2 e3 e4 e5 e6 e7⟩⟩
        ·intro M4 cs hs0 e1 e2 e3 e4
         have dn : decide (sub = 0) = false := decide_eq_false hs0
         have hlt4 := e1.lt
         have hdr : cs.drop 8 = [] := List.drop_of_length_le (by omega)
         (repeat (first | refine st ?_ | refine σa ?_ | (refine σb ?_; simp (disch := omega) only [push_cast, ↓reduceIte, reduceCtorEq, ν1, ν2, ν3, ν4, ν5, ζ1, ζ2, ζ3, ζ4, ζ5, dn, e1.get, e2, hdr, List.append_nil, boxE])))
         ((first | refine retA.ret (by rfl) ?_ | refine retA.normal (by rfl) ?_); simp (disch := omega) only [push_cast, ↓reduceIte, reduceCtorEq, Nat.reduceAdd, Nat.reduceMul, Nat.reduceLeDiff, Nat.reduceLT, Nat.reduceSub, Int.reduceNe, Int.reduceEq, Int.reduceLE, Int.reduceLT, Int.reduceToNat, ld_set, boxE])
         exact zero M4 cs sub e1 e2 e3 e4
       ·have d32 : decide (fl / 32 % 2 * 32 = 0) = false := decide_eq_false z2
        by_cases z3 : flagsP k = 192
        ·have dc : decide (flagsP k = 192) = true := decide_eq_true z3
         (repeat (first | refine st ?_ | refine σa ?_ | (refine σb ?_; simp (disch := omega) only [push_cast, ↓reduceIte, reduceCtorEq, ν1, ν2, ν3, ν4, ν5, ζ1, ζ2, ζ3, ζ4, ζ5, dz, a192, z1, d192, a32, d32, dc, Bool.not_false, Bool.not_true])))
         refine fin (.inr z3) _ ?_ ?_
         ·intro M4 a' p' c' hs0 e1 e2 e3 e4 e5 e6 e7
          (repeat (first | refine st ?_ | refine σa ?_ | (refine σb ?_; simp (disch := omega) only [push_cast, ↓reduceIte, reduceCtorEq, ν1, ν2, ν3, ν4, ν5, ζ1, ζ2, ζ3, ζ4, ζ5])))
          exact scopeA.goto rfl ((ys.drop (headP ys + sizeP ys)).length + 1) (fun k hk => by cases hk; omega) ⟨rfl, .inl ⟨rfl, rfl, rfl, rfl, back M4 a' p' c' e1 e2 e3 e4 e5 e6 e7⟩⟩
         ·intro M4 cs hs0 e1 e2 e3 e4
          have dn : decide (sub = 0) = false := decide_eq_false hs0
          have hlt4 := e1.lt
          have hdr : cs.drop 8 = [] := List.drop_of_length_le (by omega)
          (repeat (first | refine st ?_ | refine σa ?_ | (refine σb ?_; simp (disch := omega) only [push_cast, ↓reduceIte, reduceCtorEq, ν1, ν2, ν3, ν4, ν5, ζ1, ζ2, ζ3, ζ4, ζ5, dn, e1.get, e2, hdr, List.append_nil, boxE])))
          ((first | refine retA.ret (by rfl) ?_ | refine retA.normal (by rfl) ?_); simp (disch := omega) only [push_cast, ↓reduceIte, reduceCtorEq, Nat.reduceAdd, Nat.reduceMul, Nat.reduceLeDiff, Nat.reduceLT, Nat.reduceSub, Int.reduceNe, Int.reduceEq, Int.reduceLE, Int.reduceLT, Int.reduceToNat, ld_set, boxE])
          exact zero M4 cs sub e1 e2 e3 e4
        ·have dc : decide (flagsP k = 192) = false := decide_eq_false z3
         have h4' : P0 = (AV.zero, 4) := by rw [if_pos (.inr ⟨by omega, z3⟩)] at hPy; exact hPy
         (repeat (first | refine st ?_ | refine σa ?_ | (refine σb ?_; simp (disch := omega) only [push_cast, ↓reduceIte, reduceCtorEq, ν1, ν2, ν3, ν4, ν5, ζ1, ζ2, ζ3, ζ4, ζ5, dz, a192, z1, d192, a32, d32, dc, Bool.not_false, Bool.not_true, hat'.get, List.drop_nil, List.append_nil, boxE])))
         ((first | refine retA.ret (by rfl) ?_ | refine retA.normal (by rfl) ?_); simp (disch := omega) only [push_cast, ↓reduceIte, reduceCtorEq, Nat.reduceAdd, Nat.reduceMul, Nat.reduceLeDiff, Nat.reduceLT, Nat.reduceSub, Int.reduceNe, Int.reduceEq, Int.reduceLE, Int.reduceLT, Int.reduceToNat, ld_set, boxE])
         exact zero M3 _ 4 hat' rfl f0 h4'
      ·have d192 : decide (fl / 64 * 64 = flagsP k) = false := decide_eq_false z1
       have h4' : P0 = (AV.zero, 4) := by rw [if_pos (.inl z1)] at hPy; exact hPy
       (repeat (first | refine st ?_ | refine σa ?_ | (refine σb ?_; simp (disch := omega) only [push_cast, ↓reduceIte, reduceCtorEq, ν1, ν2, ν3, ν4, ν5, ζ1, ζ2, ζ3, ζ4, ζ5, dz, a192, d192, Bool.not_false, Bool.not_true, hat'.get, List.drop_nil, List.append_nil, boxE])))
       ((first | refine retA.ret (by rfl) ?_ | refine retA.normal (by rfl) ?_); simp (disch := omega) only [push_cast, ↓reduceIte, reduceCtorEq, Nat.reduceAdd, Nat.reduceMul, Nat.reduceLeDiff, Nat.reduceLT, Nat.reduceSub, Int.reduceNe, Int.reduceEq, Int.reduceLE, Int.reduceLT, Int.reduceToNat, ld_set, boxE])
       exact zero M3 _ 4 hat' rfl f0 h4'
   ·(repeat (first | refine st ?_ | refine σa ?_ | (refine σb ?_; simp (disch := omega) only [push_cast, ↓reduceIte, reduceCtorEq, ν1, ν2, ν3, ν4, ν5, ζ1, ζ2, ζ3, ζ4, ζ5])))
    exact scopeA.goto rfl 0 (fun k hk => by cases hk; omega) ⟨rfl, .inr ⟨rfl, rfl, 1, rfl, bad (by rw [hPy, readP_cut hne (.inl hc1)])⟩⟩
 ·rintro n g M1 ⟨h4, sub, h5, rfl, hF, cs, hat, hcs⟩
  show AW _ (.seq _ _) _ _ _
  have hlt := hat.lt
  have hdr : cs.drop 8 = [] := List.drop_of_length_le (by omega)
  simp (disch := omega) only [push_cast, ↓reduceIte, reduceCtorEq, Nat.reduceAdd, Nat.reduceMul, Nat.reduceLeDiff, Nat.reduceLT, Nat.reduceSub, Int.reduceNe, Int.reduceEq, Int.reduceLE, Int.reduceLT, Int.reduceToNat, lstOf_zero, lstOf_succ, h4, h5]
  (repeat (first | refine st ?_ | refine σa ?_ | (refine σb ?_; simp (disch := omega) only [push_cast, ↓reduceIte, reduceCtorEq, ν1, ν2, ν3, ν4, ν5, ζ1, ζ2, ζ3, ζ4, ζ5, hat.get, hcs, hdr, List.append_nil, boxE])))
  ((first | refine retA.ret (by rfl) ?_ | refine retA.normal (by rfl) ?_); simp (disch := omega) only [push_cast, ↓reduceIte, reduceCtorEq, Nat.reduceAdd, Nat.reduceMul, Nat.reduceLeDiff, Nat.reduceLT, Nat.reduceSub, Int.reduceNe, Int.reduceEq, Int.reduceLE, Int.reduceLT, Int.reduceToNat, ld_set, boxE])
  refine ⟨(hF.trans (Fr.set M1 M.length _)).cut (by intro x hx hlt; simp at hx; omega), _, rfl, _, _, rfl, Sl.nil _ (by omega), Sl.nil _ (by omega), by simp [blkOf], by simp [blkOf]⟩
 ·intro hp
  (repeat (first | refine st ?_ | refine σl ?_ | (refine σb ?_; simp (disch := omega) only [push_cast, ↓reduceIte, reduceCtorEq, ν1, ν2, ν3, ν4, ν5, ζ1, ζ2, ζ3, ζ4, ζ5])))
  refine AW.label ?_
  refine thenA.normal ?_
  have hmt : At (M ++ [Blk.box [.int .i64 0, .slice none 0 0, .int .u32 0, .int .u32 0, .int .u32 0, .bool false, .bool false, .slice none 0 0]] ++ [Blk.box (List.replicate 256 (.bool false))]) (M.length + 1) (.box (metL fun _ => false)) := by
   have e : metL (fun _ => false) = List.replicate 256 (.bool false) := by kernel_rfl
   rw [e]
   have := At.push (M ++ [Blk.box [.int .i64 0, .slice none 0 0, .int .u32 0, .int .u32 0, .int .u32 0, .bool false, .bool false, .slice none 0 0]]) (Blk.box (List.replicate 256 (.bool false)))
   rwa [show (M ++ [Blk.box [.int .i64 0, .slice none 0 0, .int .u32 0, .int .u32 0, .int .u32 0, .bool false, .bool false, .slice none 0 0]]).length = M.length + 1 by simp] at this
  have hfr : Fr M (M ++ [Blk.box [.int .i64 0, .slice none 0 0, .int .u32 0, .int .u32 0, .int .u32 0, .bool false, .bool false, .slice none 0 0]] ++ [Blk.box (List.replicate 256 (.bool false))]) [] := (Fr.push _ _).tr (Fr.push _ _)
  have hbx := (At.push M (Blk.box [.int .i64 0, .slice none 0 0, .int .u32 0, .int .u32 0, .int .u32 0, .bool false, .bool false, .slice none 0 0])).keep (Fr.push _ (Blk.box (List.replicate 256 (.bool false)))) (by simp)
  have h6 : (M ++ [Blk.box [.int .i64 0, .slice none 0 0, .int .u32 0, .int .u32 0, .int .u32 0, .bool false, .bool false, .slice none 0 0]]).length = M.length + 1 := by simp
  refine hp (xs.length + 1) _ _ rfl ⟨rfl, rfl, congrArg (fun x => Value.pointer (some ⟨x, 0, none⟩)) h6, xs, rfl, hv.keep hfr (by simp), Nat.le_refl _, hb, fun b hb => hb, hfr, fun _ => false, hmt, AV.zero, .slice none 0 0, .slice none 0 0, hbx, Sl.nil _ (by omega), Sl.nil _ (by omega), by simp [blkOf], by simp [blkOf], hP.symm⟩
end Go.Proofs.Ytbdejnnbpdgjlaa.Ax
