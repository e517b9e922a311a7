/- Whether a list takes a prefix: plain lemmas. No conditions. -/
import Derived.Test.YtgljfjjainlhgaaPfXPfxTakes
namespace Go.Proofs.Ytgljfjjainlhgaa.PPfxTakes
open Go.RowKit Go.Proofs.YtgljfjjainlhgaaW.PrintWords Go.Proofs.YtgljfjjainlhgaaW.PrintLast Go.Proofs.YtgljfjjainlhgaaW.PrintMore
set_option linter.unusedVariables false
set_option linter.unusedSimpArgs false
/-- A list takes a prefix. -/
def takes (p0 p1 : Int) : List S41 → Bool
  | [] => false
  | x :: r => if (pfx_In.f x.f1.f0.f0 x.f1.f0.f1 x.f1.f1 x.f1.f2 p0 p1) = some true then !x.f0 else takes p0 p1 r
theorem idx_takes (p0 p1 : Int) (l : List S41) (d : Nat) : ∀ (i : Nat), i + d = l.length → ((idxF p0 p1 (l.drop i) i).bind fun j => if 0 ≤ j then some (!(rd_T41 l j).f0) else some false) = some (takes p0 p1 (l.drop i)) := by
  induction d with
  | zero =>
    intro i h
    rw [List.drop_eq_nil_of_le (by omega)]
    rfl
  | succ d ih =>
    intro i h
    have hlt : i < l.length := by omega
    rw [List.drop_eq_getElem_cons hlt]
    unfold idxF takes
    obtain ⟨b, hb, _⟩ := in_val l[i].f1 p0 p1
    rw [hb]
    simp only [Option.bind_some]
    cases b with
    | true =>
      rw [if_pos rfl, if_pos rfl]
      simp only [Option.bind_some]
      rw [if_pos (by omega), rdE_at hlt]
    | false =>
      rw [if_neg (by simp), if_neg (by simp)]
      have := ih (i + 1) (by omega)
      rwa [show (((i + 1 : Nat)) : Int) = (i : Int) + 1 by omega] at this
theorem match_val (p0 p1 : Int) (l : List S41) : pfx_Match.f l p0 p1 = some (takes p0 p1 l) := by
  have := idx_takes p0 p1 l l.length 0 (by omega)
  exact this
end Go.Proofs.Ytgljfjjainlhgaa.PPfxTakes
