/- Contracts of functions over the abstract machine. No conditions: lemmas alone. -/
import Derived.Test.YtbjipdmbdabniaaAttrJoinsLibD
namespace Go.Proofs.Ytbjipdmbdabniaa.Ax
open Go Go.RowKit
set_option linter.unusedVariables false
set_option linter.unusedSimpArgs false
set_option maxRecDepth 100000
set_option maxHeartbeats 20000000
/-! what comes in, kind by kind; structs by their fields -/
def KInt (k : IntKind) (M : Mem) (acs : List Value) : Prop := ∃ n, (Lit.int k n).wf = true ∧ acs = [.int k n]
def KBool (M : Mem) (acs : List Value) : Prop := ∃ b, acs = [.bool b]
def KSl (k : IntKind) (M : Mem) (acs : List Value) : Prop := ∃ v xs, acs = [v] ∧ (∀ x ∈ xs, (Lit.int k x).wf = true) ∧ xs.length ≤ maxLen ∧ Sl M v 1 (ints k xs)
def Keeps (K : Mem → List Value → Prop) : Prop := ∀ M Y acs, K M acs → K (M ++ Y) acs
def KAll : List (Mem → List Value → Prop) → Mem → List Value → Prop
  | [], _, acs => acs = []
  | K :: Ks, M, acs => ∃ a b, acs = a ++ b ∧ K M a ∧ KAll Ks M b
theorem KInt.keeps (k : IntKind) : Keeps (KInt k) := fun _ _ _ h => h
theorem KBool.keeps : Keeps KBool := fun _ _ _ h => h
theorem KSl.keeps (k : IntKind) : Keeps (KSl k) := fun M Y acs ⟨v, xs, h1, h2, h3, h4⟩ => ⟨v, xs, h1, h2, h3, h4.app Y⟩
def KeepsAll : List (Mem → List Value → Prop) → Prop
  | [] => True
  | K :: Ks => Keeps K ∧ KeepsAll Ks
theorem KAll.keeps : ∀ {Ks : List (Mem → List Value → Prop)}, KeepsAll Ks → Keeps (KAll Ks)
  | [], _ => fun _ _ _ h => h
  | K :: Ks, ⟨h1, h2⟩ => fun M Y acs ⟨a, b, e, k1, k2⟩ => ⟨a, b, e, h1 M Y a k1, KAll.keeps h2 M Y b k2⟩
section
variable {P : Program} {W : World} {t e : TypeId}
theorem flatMap_ints (k : IntKind) (xs : List Int) : xs.flatMap (fun n => [Value.int k n]) = ints k xs := by
  induction xs with
  | nil => rfl
  | cons x xs ih => rw [List.flatMap_cons, ih]; rfl
theorem rd_sl {k : IntKind} (ht : P.underlying t = some (.slice e)) (he : P.cellsOf e = 1) (hu : P.underlying e = some (.int k)) : Reads P W t (KSl k) := by
  intro H en base held n cs x hx ι N0 M hN hm
  obtain ⟨ι', X, acs, h1, h2, h3, v, xs, h4, h5, h6, h7⟩ := reads_slice ht he (by omega) (flat_int (W := W) hu) (fun y => by rfl) (fun y => by rfl) (fun y => by rfl) H en base held n cs x hx ι N0 M hN hm
  rw [flatMap_ints] at h7
  exact ⟨ι', X, acs, h1, h2, h3, v, xs, h4, h5, h6, h7⟩
theorem wf_u8 {x : Int} (h : (Lit.int .u8 x).wf = true) : 0 ≤ x ∧ x ≤ 255 := by simp [Lit.wf, IntKind.min, IntKind.max, IntKind.signed, IntKind.bits] at h; omega
end

end Go.Proofs.Ytbjipdmbdabniaa.Ax
