/- How Go's data that come in read as the print's kinds: a number, a bool, a string, a slice, a struct by its fields. Lemmas alone. -/
import Derived.Test.YtgljfjjainlhgaaWWords
import Derived.Test.YtgljfjjainlhgaaWSized
import Derived.Deep.Slices
import Derived.Lib.SmallJoins
import Derived.WideShapes
namespace Go.Proofs.Ytgljfjjainlhgaa.RowLib
open Go Go.RowKit Go.Proofs.YtgljfjjainlhgaaW.PrintWords
set_option linter.unusedVariables false
set_option linter.unusedSimpArgs false

/-- Whatever reads as data of type t reads as the kind d, and is good. -/
def Opens (P : Program) (w : World) (t : TypeId) {α : Type} (d : Kd α) (good : α → Prop) : Prop :=
  ∀ (H : Type) (enc : TypeId × Value → H) (base : Nat) (spare : Nat → Bool) (held : Bool) (n : Nat) (cs : List Value) (x : DataW H × List MemPlace), DataW.trod enc P w base spare held n t cs = some x → ∃ y, d.K w y cs ∧ good y

section
variable {P : Program} {w : World} {t e : TypeId}
theorem opens_int {k : IntKind} (ht : P.underlying t = some (.int k)) : Opens P w t (Kd.int k) (fun n => (Lit.int k n).wf = true) := by
  intro H enc base spare held n cs x h
  obtain ⟨m, rfl, _, hw⟩ := DataW.trod_int ht h
  exact ⟨m, rfl, hw⟩
end
/-- One field of a struct. -/
theorem field_some {H : Type} {enc : TypeId × Value → H} {P : Program} {w : World} {base : Nat} {spare : Nat → Bool} {held : Bool} {n m : Nat} {fs : Array Field} {xs : List (DataW H × List MemPlace)} {cs : List Value}
    (hxl : xs.length = m) (hf : ∀ (i : Nat) (f : Field), fs[i]? = some f → DataW.trod enc P w base spare held n f.type ((cs.drop f.offset).take (P.cellsOf f.type)) = xs[i]?) (i : Nat) (f : Field) (h : fs[i]? = some f) (hi : i < m) :
    ∃ x, DataW.trod enc P w base spare held n f.type ((cs.drop f.offset).take (P.cellsOf f.type)) = some x := by
  rw [hf i f h, List.getElem?_eq_getElem (by omega)]
  exact ⟨_, rfl⟩
theorem split_at (cs : List Value) (o s : Nat) : cs.drop o = (cs.drop o).take s ++ cs.drop (o + s) := by
  rw [← List.drop_drop, List.take_append_drop]
theorem last_at (cs : List Value) (o s : Nat) (h : cs.length = o + s) : cs.drop o = (cs.drop o).take s := by
  rw [List.take_of_length_le (by rw [List.length_drop]; omega)]
end Go.Proofs.Ytgljfjjainlhgaa.RowLib
