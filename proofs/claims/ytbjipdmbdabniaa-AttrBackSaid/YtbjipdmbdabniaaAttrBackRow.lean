/- Contracts of functions over the abstract machine. No conditions: lemmas alone. -/
import Derived.Test.YtbjipdmbdabniaaAttrBackLibD
namespace Go.Proofs.Ytbjipdmbdabniaa.Ax
open Go Go.RowKit
set_option linter.unusedVariables false
set_option linter.unusedSimpArgs false
set_option maxRecDepth 100000
set_option maxHeartbeats 20000000
/-! what comes in, kind by kind; structs by their fields -/
def KInt (k : IntKind) (M : Mem) (acs : List Value) : Prop := ∃ n, (Lit.int k n).wf = true ∧ acs = [.int k n]
def KBool (M : Mem) (acs : List Value) : Prop := ∃ b, acs = [.bool b]
def KSl (k : IntKind) (M : Mem) (acs : List Value) : Prop := ∃ v xs, acs = [v] ∧ (∀ x ∈ xs, (Lit.int k x).wf = true) ∧ xs.length ≤ maxLen ∧ Sl M v 1 (ints k xs)
def Keeps (K : Mem → List Value → Prop) : Prop := ∀ M Y acs, K M acs → K (M ++ Y) acs
def KAll : List (Mem → List Value → Prop) → Mem → List Value → Prop
  | [], _, acs => acs = []
  | K :: Ks, M, acs => ∃ a b, acs = a ++ b ∧ K M a ∧ KAll Ks M b
theorem KInt.keeps (k : IntKind) : Keeps (KInt k) := fun _ _ _ h => h
theorem KBool.keeps : Keeps KBool := fun _ _ _ h => h
theorem KSl.keeps (k : IntKind) : Keeps (KSl k) := fun M Y acs ⟨v, xs, h1, h2, h3, h4⟩ => ⟨v, xs, h1, h2, h3, h4.app Y⟩
def KeepsAll : List (Mem → List Value → Prop) → Prop
  | [] => True
  | K :: Ks => Keeps K ∧ KeepsAll Ks
theorem KAll.keeps : ∀ {Ks : List (Mem → List Value → Prop)}, KeepsAll Ks → Keeps (KAll Ks)
  | [], _ => fun _ _ _ h => h
  | K :: Ks, ⟨h1, h2⟩ => fun M Y acs ⟨a, b, e, k1, k2⟩ => ⟨a, b, e, h1 M Y a k1, KAll.keeps h2 M Y b k2⟩
section
variable {P : Program} {W : World} {t e : TypeId}
theorem rd_int {k : IntKind} (ht : P.underlying t = some (.int k)) : Reads P W t (KInt k) := by
  intro H en base held n cs x hx ι N0 M hN hm
  obtain ⟨ι', X, acs, h1, h2, h3, y, h4, h5⟩ := (flat_int (W := W) ht).reads (fun y => by rfl) H en base held n cs x hx ι N0 M hN hm
  exact ⟨ι', X, acs, h1, h2, h3, y, h4, h5⟩
theorem rd_bool (ht : P.underlying t = some .bool) : Reads P W t KBool := by
  intro H en base held n cs x hx ι N0 M hN hm
  obtain ⟨ι', X, acs, h1, h2, h3, y, h4, h5⟩ := (flat_bool (W := W) ht).reads (fun y => by rfl) H en base held n cs x hx ι N0 M hN hm
  exact ⟨ι', X, acs, h1, h2, h3, y, h5⟩
theorem flatMap_ints (k : IntKind) (xs : List Int) : xs.flatMap (fun n => [Value.int k n]) = ints k xs := by
  induction xs with
  | nil => rfl
  | cons x xs ih => rw [List.flatMap_cons, ih]; rfl
theorem rd_sl {k : IntKind} (ht : P.underlying t = some (.slice e)) (he : P.cellsOf e = 1) (hu : P.underlying e = some (.int k)) : Reads P W t (KSl k) := by
  intro H en base held n cs x hx ι N0 M hN hm
  obtain ⟨ι', X, acs, h1, h2, h3, v, xs, h4, h5, h6, h7⟩ := reads_slice ht he (by omega) (flat_int (W := W) hu) (fun y => by rfl) (fun y => by rfl) (fun y => by rfl) H en base held n cs x hx ι N0 M hN hm
  rw [flatMap_ints] at h7
  exact ⟨ι', X, acs, h1, h2, h3, v, xs, h4, h5, h6, h7⟩
theorem wf_u8 {x : Int} (h : (Lit.int .u8 x).wf = true) : 0 ≤ x ∧ x ≤ 255 := by simp [Lit.wf, IntKind.min, IntKind.max, IntKind.signed, IntKind.bits] at h; omega
theorem wf_u32 {x : Int} (h : (Lit.int .u32 x).wf = true) : 0 ≤ x ∧ x ≤ 4294967295 := by simp [Lit.wf, IntKind.min, IntKind.max, IntKind.signed, IntKind.bits] at h; omega
def RAll (P : Program) (W : World) : List Field → List (Mem → List Value → Prop) → Prop
  | [], [] => True
  | f :: l, K :: Ks => Reads P W f.type K ∧ Keeps K ∧ RAll P W l Ks
  | _, _ => False
/-- The fields lie one behind the other. -/
def offsB (P : Program) : Nat → List Field → Nat → Bool
  | o, [], n => o == n
  | o, f :: l, n => f.offset == o && offsB P (o + P.cellsOf f.type) l n
theorem rd_fields {H : Type} {en : TypeId × Value → H} {base : Nat} {held : Bool} {m : Nat} {cs : List Value} : ∀ (l : List Field) (Ks : List (Mem → List Value → Prop)) (o : Nat), RAll P W l Ks → offsB P o l cs.length = true →
    (∀ f ∈ l, ∃ x, DataW.trod en P W base (fun _ => true) held m f.type ((cs.drop f.offset).take (P.cellsOf f.type)) = some x) →
    ∀ ι (N0 : Base) M, N0.n = W.heap.size → MRel ι N0 M W → ∃ ι' X acs, (∀ b l, ι b = some l → ι' b = some l) ∧ MRel ι' N0 (M ++ X) W ∧ LRel ι' acs (cs.drop o) ∧ KAll Ks (M ++ X) acs ∧ KeepsAll Ks
  | [], [], o, _, ho, _, ι, N0, M, hN, hm => by
    have ho' : o = cs.length := by simpa [offsB] using ho
    exact ⟨ι, [], [], fun _ _ h => h, by simpa using hm, by rw [ho', List.drop_length]; exact .nil, rfl, trivial⟩
  | f :: l, K :: Ks, o, ⟨h1, h2, h3⟩, ho, hx, ι, N0, M, hN, hm => by
    simp only [offsB, Bool.and_eq_true, beq_iff_eq] at ho
    obtain ⟨x, hx0⟩ := hx f (by simp)
    obtain ⟨ι1, X1, a1, i1, m1, r1, k1⟩ := h1 H en base held m _ x hx0 ι N0 M hN hm
    obtain ⟨ι2, X2, a2, i2, m2, r2, k2, kk⟩ := rd_fields l Ks _ h3 ho.2 (fun g hg => hx g (List.mem_cons_of_mem _ hg)) ι1 N0 (M ++ X1) hN m1
    refine ⟨ι2, X1 ++ X2, a1 ++ a2, fun b l h => i2 b l (i1 b l h), by rw [← List.append_assoc]; exact m2, ?_, ⟨a1, a2, rfl, ?_, ?_⟩, h2, kk⟩
    · rw [show cs.drop o = (cs.drop f.offset).take (P.cellsOf f.type) ++ cs.drop (o + P.cellsOf f.type) by rw [ho.1, ← List.drop_drop, List.take_append_drop]]
      exact (r1.mono i2).append r2
    · rw [← List.append_assoc]; exact h2 _ _ _ k1
    · rw [← List.append_assoc]; exact k2
  | [], _ :: _, _, h, _, _, _, _, _, _, _ => h.elim
  | _ :: _, [], _, h, _, _, _, _, _, _, _ => h.elim
theorem rd_struct {fs : Array Field} {Ks : List (Mem → List Value → Prop)} (ht : P.underlying t = some (.struct fs)) (hs : offsB P 0 fs.toList (P.cellsOf t) = true) (hr : RAll P W fs.toList Ks) : Reads P W t (KAll Ks) := by
  intro H en base held n cs x hx ι N0 M hN hm
  obtain ⟨xs, m, _, _, hlen, hxl, hf⟩ := DataW.trod_struct ht hx
  obtain ⟨ι', X, acs, h1, h2, h3, h4, _⟩ := rd_fields (en := en) (base := base) (held := held) (m := m) (cs := cs) fs.toList Ks 0 hr (by rw [hlen]; exact hs) (fun f hf' => by
    obtain ⟨i, hi, e⟩ := List.mem_iff_getElem.1 hf'
    have hg : fs[i]? = some f := by rw [← Array.getElem?_toList, List.getElem?_eq_getElem hi, e]
    have hi' : i < xs.length := by rw [hxl]; simpa using hi
    exact ⟨xs[i], by rw [hf i f hg, List.getElem?_eq_getElem hi']⟩) ι N0 M hN hm
  exact ⟨ι', X, acs, h1, h2, by simpa using h3, h4⟩
end

end Go.Proofs.Ytbjipdmbdabniaa.Ax
