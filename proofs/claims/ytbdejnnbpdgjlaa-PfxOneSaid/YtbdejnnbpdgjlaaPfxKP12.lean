/- Contracts of functions over the abstract machine. No conditions: lemmas alone. -/
import Derived.Test.YtbdejnnbpdgjlaaPfxKLibD
import Derived.Test.YtbdejnnbpdgjlaaPfxKP0
import Derived.Test.YtbdejnnbpdgjlaaPfxKP11
namespace Go.Proofs.Ytbdejnnbpdgjlaa.Ax
open Go Go.RowKit
open Nat renaming reduceAdd → ν1, reduceMul → ν2, reduceLeDiff → ν3, reduceLT → ν4, reduceSub → ν5
open Int renaming reduceNe → ζ1, reduceEq → ζ2, reduceLE → ζ3, reduceLT → ζ4, reduceToNat → ζ5
set_option linter.unusedVariables false
set_option linter.unusedSimpArgs false
set_option maxRecDepth 100000
set_option maxHeartbeats 20000000
attribute [local irreducible] thenA blockA scopeA retA AL AW AD ADL AH clrK CallA apure aload bload appK ptrK fnK ares szOk planOk okOps
def tenR (a b : Int) : RG := ⟨(167772160, 8), a, b⟩
def tenE : List PE := [⟨true, tenR 8 8⟩, ⟨false, tenR 8 9⟩]
theorem tenE_flat : flatN tenE 2 = [tenR 9 9] := by decide +kernel
theorem tenE_1 : flatN tenE 1 = [tenR 8 9] := by decide +kernel
theorem alive_minus : minusP ⟨(0, 0), 0, 2⟩ ⟨(2147483648, 1), 1, 2⟩ = [⟨(0, 0), 0, 0⟩, ⟨(0, 1), 1, 2⟩] := by decide +kernel
theorem alive_in1 : inR (tenR 16 24) (167837696, 16) := by decide +kernel
theorem alive_in2 : ¬inR (tenR 16 24) (167772160, 8) := by decide +kernel
theorem tens_flat (v : Value) (M : Mem) (hv : Sl M v 5 (pes tenE)) : CallA Try.prog 40 [v] M fun r M' => Fr M M' [] ∧ ∃ w, r = .tuple ⟨[w, .int .i64 0]⟩ ∧ New M M' w 4 (rgs [tenR 9 9]) := by
 have h : ∀ k ≤ 2, flatN tenE k = [] ∨ flatN tenE k = [tenR 8 9] ∨ flatN tenE k = [tenR 9 9] := by
  intro k hk
  match k, hk with
  | 0, _ => exact .inl rfl
  | 1, _ => exact .inr (.inl tenE_1)
  | 2, _ => exact .inr (.inr tenE_flat)
 have g9 : ∀ a b, goodR (tenR a b) := fun a b => by unfold goodR tenR; simp
 have hm : ∀ x ∈ [tenR 8 9, tenR 9 9], ∀ e ∈ tenE, (minusP x e.r).length ≤ 40 := by decide +kernel
 have := flat_spec v tenE M hv (by decide) (by simp [tenE, g9]) (fun k hk => by rcases h k hk with e | e | e <;> rw [e] <;> simp)
  (fun k hk r hr => by rcases h k hk with e | e | e <;> rw [e] at hr <;> simp at hr <;> subst hr <;> exact g9 _ _)
  (fun k hk r hr e he => by
   rcases h k hk with e' | e' | e' <;> rw [e'] at hr <;> simp at hr <;> subst hr
   ·exact hm _ (by simp) e he
   ·exact hm _ (by simp) e he)
 rw [show tenE.length = 2 from rfl, tenE_flat] at this
 exact this
theorem alive04_spec (M : Mem) : CallA Try.prog 12 [] M fun r M' => Fr M M' [] ∧ r = .bool true := by
 (refine CallA.of_body Try.func12 rfl (by rfl) ?_; simp only [Try.ntmps12, List.length_cons, List.length_nil, List.replicate, List.cons_append, List.nil_append, Nat.reduceSub, Nat.reduceAdd])
 (repeat (first | refine st ?_ | refine σa ?_ | (refine σb ?_; simp (disch := omega) only [push_cast, ↓reduceIte, reduceCtorEq, ν1, ν2, ν3, ν4, ν5, ζ1, ζ2, ζ3, ζ4, ζ5, buildE, lsE])))
 refine (ten_spec 8 8 M).mono ?_
 rintro v M1 ⟨rfl, F1⟩
 (repeat (first | refine st ?_ | refine σa ?_ | (refine σb ?_; simp (disch := omega) only [push_cast, ↓reduceIte, reduceCtorEq, ν1, ν2, ν3, ν4, ν5, ζ1, ζ2, ζ3, ζ4, ζ5, rgL_len, buildE, lsE])))
 refine (ten_spec 8 9 M1).mono ?_
 rintro v M2 ⟨rfl, F2⟩
 (repeat (first | refine st ?_ | refine σa ?_ | (refine σb ?_; simp (disch := omega) only [push_cast, ↓reduceIte, reduceCtorEq, ν1, ν2, ν3, ν4, ν5, ζ1, ζ2, ζ3, ζ4, ζ5, rgL_len, buildE, lsE])))
 refine ⟨5, pes tenE, rfl, ?_⟩
 (repeat (first | refine st ?_ | refine σa ?_ | (refine σb ?_; simp (disch := omega) only [push_cast, ↓reduceIte, reduceCtorEq, ν1, ν2, ν3, ν4, ν5, ζ1, ζ2, ζ3, ζ4, ζ5, buildE, lsE])))
 have P3 := Fr.push M2 (.row true 5 (pes tenE))
 have hr := New.row M2 (s := 5) (n := 2) (cs := pes tenE) (by omega) rfl rfl (by decide)
 refine (tens_flat _ _ hr.sl).mono ?_
 rintro v M3 ⟨F3, w, rfl, n3⟩
 (repeat (first | refine st ?_ | refine σa ?_ | (refine σb ?_; simp (disch := omega) only [push_cast, ↓reduceIte, reduceCtorEq, ν1, ν2, ν3, ν4, ν5, ζ1, ζ2, ζ3, ζ4, ζ5, buildE, lsE])))
 have gz : goodR ⟨(0, 0), 0, 2⟩ := by unfold goodR; simp
 have gy : goodR ⟨(2147483648, 1), 1, 2⟩ := by unfold goodR; simp
 have g9 : goodR (tenR 16 24) := by unfold goodR tenR; simp
 refine (pfminus_spec ⟨(0, 0), 0, 2⟩ ⟨(2147483648, 1), 1, 2⟩ M3 gz gy).mono ?_
 rintro m M4 ⟨F4, n4⟩
 rw [alive_minus] at n4
 (repeat (first | refine st ?_ | refine σa ?_ | (refine σb ?_; simp (disch := omega) only [push_cast, ↓reduceIte, reduceCtorEq, ν1, ν2, ν3, ν4, ν5, ζ1, ζ2, ζ3, ζ4, ζ5, buildE, lsE])))
 refine (ten_spec 16 24 M4).mono ?_
 rintro v M5 ⟨rfl, F5⟩
 (repeat (first | refine st ?_ | refine σa ?_ | (refine σb ?_; simp (disch := omega) only [push_cast, ↓reduceIte, reduceCtorEq, ν1, ν2, ν3, ν4, ν5, ζ1, ζ2, ζ3, ζ4, ζ5, buildE, lsE])))
 refine (pfin_spec (tenR 16 24) (167837696, 16) M5 g9 (by simp)).mono ?_
 rintro v M6 ⟨F6, rfl⟩
 rw [decide_eq_true alive_in1]
 (repeat (first | refine st ?_ | refine σa ?_ | (refine σb ?_; simp (disch := omega) only [push_cast, ↓reduceIte, reduceCtorEq, ν1, ν2, ν3, ν4, ν5, ζ1, ζ2, ζ3, ζ4, ζ5, buildE, lsE])))
 refine (ten_spec 16 24 M6).mono ?_
 rintro v M7 ⟨rfl, F7⟩
 (repeat (first | refine st ?_ | refine σa ?_ | (refine σb ?_; simp (disch := omega) only [push_cast, ↓reduceIte, reduceCtorEq, ν1, ν2, ν3, ν4, ν5, ζ1, ζ2, ζ3, ζ4, ζ5, buildE, lsE])))
 refine (pfin_spec (tenR 16 24) (167772160, 8) M7 g9 (by simp)).mono ?_
 rintro v M8 ⟨F8, rfl⟩
 rw [decide_eq_false alive_in2]
 have F48 := ((F5.tr F6).tr F7).tr F8
 have F38 := F4.tr F48
 (repeat (first | refine st ?_ | refine σa ?_ | (refine σb ?_; simp (disch := omega) only [push_cast, ↓reduceIte, reduceCtorEq, ν1, ν2, ν3, ν4, ν5, ζ1, ζ2, ζ3, ζ4, ζ5, Bool.not_false, buildE, lsE])))
 refine (ten_spec 9 9 M8).mono ?_
 rintro v M9 ⟨rfl, F9⟩
 (repeat (first | refine st ?_ | refine σa ?_ | (refine σb ?_; simp (disch := omega) only [push_cast, ↓reduceIte, reduceCtorEq, ν1, ν2, ν3, ν4, ν5, ζ1, ζ2, ζ3, ζ4, ζ5, rgL_len, buildE, lsE])))
 have h9 := New.row M9 (s := 4) (n := 1) (cs := rgL (tenR 9 9)) (by omega) rfl rfl (by decide)
 have P9 := Fr.push M9 (.row true 4 (rgL (tenR 9 9)))
 have F49 := F48.tr F9
 have w9 := ((n3.sl.keep (F4.tr F49) (by simp)).keep P9 (by simp))
 refine (rsame_spec w _ [tenR 9 9] [tenR 9 9] _ w9 (by rw [rgs_one4]; exact h9.sl) (by simp)).mono ?_
 rintro v M10 ⟨rfl, rfl⟩
 rw [decide_eq_true rfl]
 have m9 := ((n4.sl.keep F49 (by simp)).keep P9 (by simp))
 (repeat (first | refine st ?_ | refine σa ?_ | (refine σb ?_; simp (disch := omega) only [push_cast, ↓reduceIte, reduceCtorEq, ν1, ν2, ν3, ν4, ν5, ζ1, ζ2, ζ3, ζ4, ζ5, buildE, lsE])))
 have hA := New.row (M9 ++ [Blk.row true 4 (rgL (tenR 9 9))]) (s := 4) (n := 2) (cs := rgs [⟨(0, 0), 0, 0⟩, ⟨(0, 1), 1, 2⟩]) (by omega) rfl rfl (by decide)
 have PA := Fr.push (M9 ++ [Blk.row true 4 (rgL (tenR 9 9))]) (.row true 4 (rgs [⟨(0, 0), 0, 0⟩, ⟨(0, 1), 1, 2⟩]))
 refine (rsame_spec m _ [⟨(0, 0), 0, 0⟩, ⟨(0, 1), 1, 2⟩] [⟨(0, 0), 0, 0⟩, ⟨(0, 1), 1, 2⟩] _ (m9.keep PA (by simp)) hA.sl (by simp)).mono ?_
 rintro v M10 ⟨rfl, rfl⟩
 rw [decide_eq_true rfl]
 (repeat (first | refine st ?_ | refine σa ?_ | (refine σb ?_; simp (disch := omega) only [push_cast, ↓reduceIte, reduceCtorEq, ν1, ν2, ν3, ν4, ν5, ζ1, ζ2, ζ3, ζ4, ζ5, lsE])))
 ((first | refine retA.ret (by rfl) ?_ | refine retA.normal (by rfl) ?_); simp (disch := omega) only [push_cast, ↓reduceIte, reduceCtorEq, Nat.reduceAdd, Nat.reduceMul, Nat.reduceLeDiff, Nat.reduceLT, Nat.reduceSub, Int.reduceNe, Int.reduceEq, Int.reduceLE, Int.reduceLT, Int.reduceToNat])
 exact ((((((F1.tr F2).tr P3).tr F3).tr (F4.tr F49)).tr P9).tr PA)
end Go.Proofs.Ytbdejnnbpdgjlaa.Ax
namespace Go.Proofs.Ytbdejnnbpdgjlaa.Ax
open Go Go.RowKit
set_option linter.unusedVariables false
set_option linter.unusedSimpArgs false
set_option maxRecDepth 100000
set_option maxHeartbeats 20000000
def KInt (k : IntKind) (M : Mem) (acs : List Value) : Prop := ∃ n, (Lit.int k n).wf = true ∧ acs = [.int k n]
def KBool (M : Mem) (acs : List Value) : Prop := ∃ b, acs = [.bool b]
def KSl (k : IntKind) (M : Mem) (acs : List Value) : Prop := ∃ v xs, acs = [v] ∧ (∀ x ∈ xs, (Lit.int k x).wf = true) ∧ xs.length ≤ maxLen ∧ Sl M v 1 (ints k xs)
def Keeps (K : Mem → List Value → Prop) : Prop := ∀ M Y acs, K M acs → K (M ++ Y) acs
def KAll : List (Mem → List Value → Prop) → Mem → List Value → Prop
 | [], _, acs => acs = []
 | K :: Ks, M, acs => ∃ a b, acs = a ++ b ∧ K M a ∧ KAll Ks M b
theorem KInt.keeps (k : IntKind) : Keeps (KInt k) := fun _ _ _ h => h
theorem KBool.keeps : Keeps KBool := fun _ _ _ h => h
theorem KSl.keeps (k : IntKind) : Keeps (KSl k) := fun M Y acs ⟨v, xs, h1, h2, h3, h4⟩ => ⟨v, xs, h1, h2, h3, h4.app Y⟩
def KeepsAll : List (Mem → List Value → Prop) → Prop
 | [] => True
 | K :: Ks => Keeps K ∧ KeepsAll Ks
theorem KAll.keeps : ∀ {Ks : List (Mem → List Value → Prop)}, KeepsAll Ks → Keeps (KAll Ks)
 | [], _ => fun _ _ _ h => h
 | K :: Ks, ⟨h1, h2⟩ => fun M Y acs ⟨a, b, e, k1, k2⟩ => ⟨a, b, e, h1 M Y a k1, KAll.keeps h2 M Y b k2⟩
section
variable {P : Program} {W : World} {t e : TypeId}
theorem rd_int {k : IntKind} (ht : P.underlying t = some (.int k)) : Reads P W t (KInt k) := by
 intro H en base held n cs x hx ι N0 M hN hm
 obtain ⟨ι', X, acs, h1, h2, h3, y, h4, h5⟩ := (flat_int (W := W) ht).reads (fun y => by rfl) H en base held n cs x hx ι N0 M hN hm
 exact ⟨ι', X, acs, h1, h2, h3, y, h4, h5⟩
theorem wf_u32 {x : Int} (h : (Lit.int .u32 x).wf = true) : 0 ≤ x ∧ x ≤ 4294967295 := by simp [Lit.wf, IntKind.min, IntKind.max, IntKind.signed, IntKind.bits] at h; omega
def RAll (P : Program) (W : World) : List Field → List (Mem → List Value → Prop) → Prop
 | [], [] => True
 | f :: l, K :: Ks => Reads P W f.type K ∧ Keeps K ∧ RAll P W l Ks
 | _, _ => False
def offsB (P : Program) : Nat → List Field → Nat → Bool
 | o, [], n => o == n
 | o, f :: l, n => f.offset == o && offsB P (o + P.cellsOf f.type) l n
theorem rd_fields {H : Type} {en : TypeId × Value → H} {base : Nat} {held : Bool} {m : Nat} {cs : List Value} : ∀ (l : List Field) (Ks : List (Mem → List Value → Prop)) (o : Nat), RAll P W l Ks → offsB P o l cs.length = true →
  (∀ f ∈ l, ∃ x, DataW.trod en P W base (fun _ => true) held m f.type ((cs.drop f.offset).take (P.cellsOf f.type)) = some x) →
  ∀ ι (N0 : Base) M, N0.n = W.heap.size → MRel ι N0 M W → ∃ ι' X acs, (∀ b l, ι b = some l → ι' b = some l) ∧ MRel ι' N0 (M ++ X) W ∧ LRel ι' acs (cs.drop o) ∧ KAll Ks (M ++ X) acs ∧ KeepsAll Ks
 | [], [], o, _, ho, _, ι, N0, M, hN, hm => by
  have ho' : o = cs.length := by simpa [offsB] using ho
  exact ⟨ι, [], [], fun _ _ h => h, by simpa using hm, by rw [ho', List.drop_length]; exact .nil, rfl, trivial⟩
 | f :: l, K :: Ks, o, ⟨h1, h2, h3⟩, ho, hx, ι, N0, M, hN, hm => by
  simp only [offsB, Bool.and_eq_true, beq_iff_eq] at ho
  obtain ⟨x, hx0⟩ := hx f (by simp)
  obtain ⟨ι1, X1, a1, i1, m1, r1, k1⟩ := h1 H en base held m _ x hx0 ι N0 M hN hm
  obtain ⟨ι2, X2, a2, i2, m2, r2, k2, kk⟩ := rd_fields l Ks _ h3 ho.2 (fun g hg => hx g (List.mem_cons_of_mem _ hg)) ι1 N0 (M ++ X1) hN m1
  refine ⟨ι2, X1 ++ X2, a1 ++ a2, fun b l h => i2 b l (i1 b l h), by rw [← List.append_assoc]; exact m2, ?_, ⟨a1, a2, rfl, ?_, ?_⟩, h2, kk⟩
  ·rw [show cs.drop o = (cs.drop f.offset).take (P.cellsOf f.type) ++ cs.drop (o + P.cellsOf f.type) by rw [ho.1, ← List.drop_drop, List.take_append_drop]]
   exact (r1.mono i2).append r2
  ·rw [← List.append_assoc]; exact h2 _ _ _ k1
  ·rw [← List.append_assoc]; exact k2
 | [], _ :: _, _, h, _, _, _, _, _, _, _ => h.elim
 | _ :: _, [], _, h, _, _, _, _, _, _, _ => h.elim
theorem rd_struct {fs : Array Field} {Ks : List (Mem → List Value → Prop)} (ht : P.underlying t = some (.struct fs)) (hs : offsB P 0 fs.toList (P.cellsOf t) = true) (hr : RAll P W fs.toList Ks) : Reads P W t (KAll Ks) := by
 intro H en base held n cs x hx ι N0 M hN hm
 obtain ⟨xs, m, _, _, hlen, hxl, hf⟩ := DataW.trod_struct ht hx
 obtain ⟨ι', X, acs, h1, h2, h3, h4, _⟩ := rd_fields (en := en) (base := base) (held := held) (m := m) (cs := cs) fs.toList Ks 0 hr (by rw [hlen]; exact hs) (fun f hf' => by
  obtain ⟨i, hi, e⟩ := List.mem_iff_getElem.1 hf'
  have hg : fs[i]? = some f := by rw [← Array.getElem?_toList, List.getElem?_eq_getElem hi, e]
  have hi' : i < xs.length := by rw [hxl]; simpa using hi
  exact ⟨xs[i], by rw [hf i f hg, List.getElem?_eq_getElem hi']⟩) ι N0 M hN hm
 exact ⟨ι', X, acs, h1, h2, by simpa using h3, h4⟩
end
def zipI : List IntKind → List Int → List Value
 | [], _ => []
 | k :: ks, ns => .int k (ns.headD 0) :: zipI ks ns.tail
def goodI : List IntKind → List Int → Prop
 | [], ns => ns = []
 | k :: ks, ns => (Lit.int k (ns.headD 0)).wf = true ∧ ns ≠ [] ∧ goodI ks ns.tail
theorem zipI_length : ∀ (ks : List IntKind) (ns : List Int), (zipI ks ns).length = ks.length
 | [], _ => rfl
 | k :: ks, ns => by simp [zipI, zipI_length ks ns.tail]
theorem zipI_flat : ∀ (ks : List IntKind) (ns : List Int), (zipI ks ns).all flat = true
 | [], _ => rfl
 | k :: ks, ns => by simp [zipI, flat, zipI_flat ks ns.tail]
theorem zipI_one : ∀ (ks : List IntKind) (ns : List Int), (zipI ks ns).all Value.oneCell' = true
 | [], _ => rfl
 | k :: ks, ns => by simp only [zipI, List.all_cons, zipI_one ks ns.tail, Value.oneCell', Bool.and_self]
theorem zipI_append : ∀ (ks ls : List IntKind) (ns ms : List Int), goodI ks ns → zipI (ks ++ ls) (ns ++ ms) = zipI ks ns ++ zipI ls ms
 | [], ls, ns, ms, h => by cases h; rfl
 | k :: ks, ls, ns, ms, ⟨_, hne, h⟩ => by
  cases ns with
  | nil => exact absurd rfl hne
  | cons n ns => simp only [List.cons_append, zipI, List.headD_cons, List.tail_cons, zipI_append ks ls ns ms h]
theorem goodI_append : ∀ {ks ls : List IntKind} {ns ms : List Int}, goodI ks ns → goodI ls ms → goodI (ks ++ ls) (ns ++ ms)
 | [], ls, ns, ms, h, h' => by cases h; exact h'
 | k :: ks, ls, ns, ms, ⟨hw, hne, h⟩, h' => by
  cases ns with
  | nil => exact absurd rfl hne
  | cons n ns => exact ⟨hw, by simp, goodI_append h h'⟩
def FK (P : Program) (W : World) (t : TypeId) (ks : List IntKind) : Prop := FlatR P W t (zipI ks) (goodI ks)
section
variable {P : Program} {W : World} {t e : TypeId}
theorem FK.int {k : IntKind} (ht : P.underlying t = some (.int k)) : FK P W t [k] := by
 intro H en base spare held n cs x h
 obtain ⟨m, rfl, _, hw⟩ := DataW.trod_int ht h
 exact ⟨[m], ⟨hw, by simp, rfl⟩, rfl⟩
def FKs (P : Program) (W : World) : List Field → List (List IntKind) → Prop
 | [], [] => True
 | f :: l, k :: ks => FK P W f.type k ∧ FKs P W l ks
 | _, _ => False
theorem fk_fields {H : Type} {en : TypeId × Value → H} {base : Nat} {spare : Nat → Bool} {held : Bool} {m : Nat} {cs : List Value} : ∀ (l : List Field) (ks : List (List IntKind)) (o : Nat), FKs P W l ks → offsB P o l cs.length = true →
  (∀ f ∈ l, ∃ x, DataW.trod en P W base spare held m f.type ((cs.drop f.offset).take (P.cellsOf f.type)) = some x) →
  ∃ ns, goodI ks.flatten ns ∧ cs.drop o = zipI ks.flatten ns
 | [], [], o, _, ho, _ => by
  have ho' : o = cs.length := by simpa [offsB] using ho
  exact ⟨[], rfl, by rw [ho', List.drop_length]; rfl⟩
 | f :: l, k :: ks, o, ⟨h1, h3⟩, ho, hx => by
  simp only [offsB, Bool.and_eq_true, beq_iff_eq] at ho
  obtain ⟨x, hx0⟩ := hx f (by simp)
  obtain ⟨n1, g1, e1⟩ := h1 H en base spare held m _ x hx0
  obtain ⟨n2, g2, e2⟩ := fk_fields l ks _ h3 ho.2 (fun g hg => hx g (List.mem_cons_of_mem _ hg))
  refine ⟨n1 ++ n2, by rw [List.flatten_cons]; exact goodI_append g1 g2, ?_⟩
  rw [List.flatten_cons, zipI_append _ _ _ _ g1, ← e1, ← e2, ho.1, ← List.drop_drop, List.take_append_drop]
 | [], _ :: _, _, h, _, _ => h.elim
 | _ :: _, [], _, h, _, _ => h.elim
theorem FK.struct {fs : Array Field} {ks : List (List IntKind)} (ht : P.underlying t = some (.struct fs)) (hs : offsB P 0 fs.toList (P.cellsOf t) = true) (hr : FKs P W fs.toList ks) : FK P W t ks.flatten := by
 intro H en base spare held n cs x hx
 obtain ⟨xs, m, _, _, hlen, hxl, hf⟩ := DataW.trod_struct ht hx
 obtain ⟨ns, h1, h2⟩ := fk_fields (en := en) (base := base) (spare := spare) (held := held) (m := m) (cs := cs) fs.toList ks 0 hr (by rw [hlen]; exact hs) (fun f hf' => by
  obtain ⟨i, hi, e⟩ := List.mem_iff_getElem.1 hf'
  have hg : fs[i]? = some f := by rw [← Array.getElem?_toList, List.getElem?_eq_getElem hi, e]
  have hi' : i < xs.length := by rw [hxl]; simpa using hi
  exact ⟨xs[i], by rw [hf i f hg, List.getElem?_eq_getElem hi']⟩)
 exact ⟨ns, h1, by simpa using h2⟩
def KSs (ks : List IntKind) (M : Mem) (acs : List Value) : Prop := ∃ (v : Value) (xs : List (List Int)), acs = [v] ∧ (∀ x ∈ xs, goodI ks x) ∧ xs.length ≤ maxLen ∧ Sl M v ks.length (xs.flatMap (zipI ks))
theorem KSs.keeps (ks : List IntKind) : Keeps (KSs ks) := fun M Y acs ⟨v, xs, h1, h2, h3, h4⟩ => ⟨v, xs, h1, h2, h3, h4.app Y⟩
theorem rd_ss {ks : List IntKind} (ht : P.underlying t = some (.slice e)) (he : P.cellsOf e = ks.length) (h0 : 0 < ks.length) (hf : FK P W e ks) : Reads P W t (KSs ks) := by
 intro H en base held n cs x hx ι N0 M hN hm
 exact reads_slice ht he h0 hf (zipI_flat ks) (zipI_one ks) (zipI_length ks) H en base held n cs x hx ι N0 M hN hm
end
def Cells (K : Mem → List Value → Prop) (sz : Nat) : Prop := ∀ M acs, K M acs → acs.all Value.oneCell' = true ∧ acs.length = sz
theorem KInt.cells (k : IntKind) : Cells (KInt k) 1 := fun M acs ⟨n, _, e⟩ => by subst e; exact ⟨rfl, rfl⟩
theorem KBool.cells : Cells KBool 1 := fun M acs ⟨n, e⟩ => by subst e; exact ⟨rfl, rfl⟩
theorem sl_cells {v : Value} (h : isSl v = true) : [v].all Value.oneCell' = true := by
 have := isSl_one h
 simp only [List.all_cons, List.all_nil, Bool.and_true]
 exact this
theorem KSl.cells (k : IntKind) : Cells (KSl k) 1 := fun M acs ⟨v, xs, e, _, _, h⟩ => by subst e; exact ⟨sl_cells h.isSl, rfl⟩
theorem KEl.cells (K : Mem → List Value → Prop) (sz : Nat) : Cells (KEl K sz) 1 := fun M acs ⟨v, L, e, _, _, h⟩ => by subst e; exact ⟨sl_cells h.isSl, rfl⟩
theorem KEl.keeps {K : Mem → List Value → Prop} {sz : Nat} (hk : Keeps K) : Keeps (KEl K sz) := fun M Y acs ⟨v, L, e, h1, h2, h3⟩ => ⟨v, L, e, fun c hc => hk _ _ _ (h1 c hc), h2, h3.app Y⟩
end Go.Proofs.Ytbdejnnbpdgjlaa.Ax
namespace Go.Proofs.Ytbdejnnbpdgjlaa.Ax
open Go Go.RowKit
set_option linter.unusedVariables false
set_option linter.unusedSimpArgs false
set_option maxRecDepth 100000
theorem rd32 (W : World) : Reads Try.prog W 32 (KAll [(KInt .u32), (KInt .i64)]) := rd_struct Try.underlying32 (by kernel_rfl) ⟨(rd_int (by kernel_rfl)), (KInt.keeps _), (rd_int (by kernel_rfl)), (KInt.keeps _), trivial⟩
def In22 (M : Mem) (v : Value) : Prop := (KSs [.u32, .i64, .i64, .i64]) M [v]
def In32 (M : Mem) (v : Value) : Prop := ∃ acs, v = .agg ⟨acs⟩ ∧ (KAll [(KInt .u32), (KInt .i64)]) M acs
end Go.Proofs.Ytbdejnnbpdgjlaa.Ax
