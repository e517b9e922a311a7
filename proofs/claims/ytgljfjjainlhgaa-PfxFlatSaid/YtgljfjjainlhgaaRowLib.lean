/- How Go's data that come in read as the print's kinds: a number, a bool, a string, a slice, a struct by its fields. Lemmas alone. -/
import Derived.Test.YtgljfjjainlhgaaWWords
import Derived.Test.YtgljfjjainlhgaaWSized
import Derived.Deep.Slices
import Derived.Lib.SmallJoins
import Derived.WideShapes
namespace Go.Proofs.Ytgljfjjainlhgaa.RowLib
open Go Go.RowKit Go.Proofs.YtgljfjjainlhgaaW.PrintWords
set_option linter.unusedVariables false
set_option linter.unusedSimpArgs false

theorem choose_list {α : Type} {p : Nat → α → Prop} (len : Nat) (h : ∀ i, i < len → ∃ y, p i y) : ∃ xs : List α, xs.length = len ∧ ∀ i, i < len → ∃ y, xs[i]? = some y ∧ p i y := by
  induction len with
  | zero => exact ⟨[], rfl, fun i hi => by omega⟩
  | succ len ih =>
    obtain ⟨xs, hxl, hxs⟩ := ih (fun i hi => h i (by omega))
    obtain ⟨y, hy⟩ := h len (by omega)
    refine ⟨xs ++ [y], by simp [hxl], fun i hi => ?_⟩
    rcases Nat.lt_or_ge i len with hi' | hi'
    · obtain ⟨z, hz, hr⟩ := hxs i hi'
      exact ⟨z, by rw [List.getElem?_append_left (by omega)]; exact hz, hr⟩
    · obtain rfl : i = len := by omega
      exact ⟨y, by rw [← hxl]; simp, hy⟩

/-- Whatever reads as data of type t reads as the kind d, and is good. -/
def Opens (P : Program) (w : World) (t : TypeId) {α : Type} (d : Kd α) (good : α → Prop) : Prop :=
  ∀ (H : Type) (enc : TypeId × Value → H) (base : Nat) (spare : Nat → Bool) (held : Bool) (n : Nat) (cs : List Value) (x : DataW H × List MemPlace), DataW.trod enc P w base spare held n t cs = some x → ∃ y, d.K w y cs ∧ good y

section
variable {P : Program} {w : World} {t e : TypeId}
theorem opens_int {k : IntKind} (ht : P.underlying t = some (.int k)) : Opens P w t (Kd.int k) (fun n => (Lit.int k n).wf = true) := by
  intro H enc base spare held n cs x h
  obtain ⟨m, rfl, _, hw⟩ := DataW.trod_int ht h
  exact ⟨m, rfl, hw⟩
theorem opens_bool (ht : P.underlying t = some .bool) : Opens P w t Kd.bool (fun _ => True) := by
  intro H enc base spare held n cs x h
  obtain ⟨b, rfl, _⟩ := DataW.trod_bool ht h
  exact ⟨b, rfl, trivial⟩
theorem opens_slice {α : Type} {d : Kd α} {good : α → Prop} (ht : P.underlying t = some (.slice e)) (he : P.cellsOf e = d.sz) (ho : Opens P w e d good) : Opens P w t (Kd.slice e d) (fun xs => xs.length ≤ maxLen ∧ ∀ x ∈ xs, good x) := by
  intro H enc base spare held n cs x h
  rcases Go.Deep.open_slice ht h with ⟨rfl, _⟩ | ⟨a, len, cap, m, n', D, Pl, rfl, hb, hl, hm, hmm, _, hx⟩
  · exact ⟨[], ⟨none, 0, rfl, Nat.le_refl _, rfl, by simp, fun h => by simp at h⟩, by simp, by simp⟩
  · have hlm : len ≤ m := by rw [hmm]; split <;> omega
    have hall : ∀ i, i < len → ∃ y : α, ∃ c, w.cells? base (a.add (i * d.sz)) d.sz = some c ∧ d.K w y c ∧ good y := by
      intro i hi
      obtain ⟨c, hc, ht⟩ := hx i (by omega)
      rw [he] at hc
      obtain ⟨y, hk, hg⟩ := ho H enc base spare held n' c _ ht
      exact ⟨y, c, hc, hk, hg⟩
    have hex := choose_list (p := fun i (y : α) => ∃ c, w.cells? base (a.add (i * d.sz)) d.sz = some c ∧ d.K w y c ∧ good y) len hall
    obtain ⟨xs, hxl, hxs⟩ := hex
    subst hxl
    refine ⟨xs, ⟨some a, cap, rfl, hl, rfl, by have : maxLen = 9223372036854775807 := rfl; omega, fun _ => ⟨a, rfl, fun j p hp => ?_⟩⟩, by omega, fun y hy => ?_⟩
    · obtain ⟨y, hy, c, hc, hk, hg⟩ := hxs j (List.getElem?_eq_some_iff.1 hp).1
      rw [hp] at hy
      injection hy with hy
      subst hy
      obtain ⟨_, hlen, hcell⟩ := World.cells?_some hc
      refine ⟨c, hlen, hk, fun i u hi => ?_⟩
      have h3 := hcell i (by rw [← hlen]; exact (List.getElem?_eq_some_iff.1 hi).1)
      rw [Go.Deep.add_add] at h3
      exact h3.trans hi
    · obtain ⟨i, hi, rfl⟩ := List.mem_iff_getElem.1 hy
      obtain ⟨z, hz, _, _, _, hg⟩ := hxs i hi
      rw [List.getElem?_eq_getElem hi] at hz
      injection hz with hz
      exact hz ▸ hg
end
/-- One field of a struct. -/
theorem field_some {H : Type} {enc : TypeId × Value → H} {P : Program} {w : World} {base : Nat} {spare : Nat → Bool} {held : Bool} {n m : Nat} {fs : Array Field} {xs : List (DataW H × List MemPlace)} {cs : List Value}
    (hxl : xs.length = m) (hf : ∀ (i : Nat) (f : Field), fs[i]? = some f → DataW.trod enc P w base spare held n f.type ((cs.drop f.offset).take (P.cellsOf f.type)) = xs[i]?) (i : Nat) (f : Field) (h : fs[i]? = some f) (hi : i < m) :
    ∃ x, DataW.trod enc P w base spare held n f.type ((cs.drop f.offset).take (P.cellsOf f.type)) = some x := by
  rw [hf i f h, List.getElem?_eq_getElem (by omega)]
  exact ⟨_, rfl⟩
theorem split_at (cs : List Value) (o s : Nat) : cs.drop o = (cs.drop o).take s ++ cs.drop (o + s) := by
  rw [← List.drop_drop, List.take_append_drop]
theorem last_at (cs : List Value) (o s : Nat) (h : cs.length = o + s) : cs.drop o = (cs.drop o).take s := by
  rw [List.take_of_length_le (by rw [List.length_drop]; omega)]
/-- A slice that comes in, as a value. -/
theorem slice_value {v : Value} {A : Option Addr} {n c a len cap : Nat} {A' : Option Addr} (h : (Value.slice A' len cap).cells.toList = [.slice A n c]) : A' = A ∧ len = n ∧ cap = c := by
  simpa [Value.cells] using h
end Go.Proofs.Ytgljfjjainlhgaa.RowLib
