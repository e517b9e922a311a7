/- Written for this claim by a program of this session, after the kit's print. Not trusted: Lean checks it. -/
import Derived.Test.YtgljfjjainlhgaaPPfxFlatx13
namespace Go.Proofs.Ytgljfjjainlhgaa.PPfxFlat
open Go.RowKit Go.Proofs.YtgljfjjainlhgaaW.PrintWords
set_option linter.unusedVariables false
def good4 (x : Bool) : Prop := True
def good22 (x : Int) : Prop := (Lit.int .u32 x).wf = true
def good3 (x : Int) : Prop := (Lit.int .i64 x).wf = true
def good24 (x : S24) : Prop := good22 x.f0 ∧ good3 x.f1
def good26 (x : S26) : Prop := good24 x.f0 ∧ good3 x.f1 ∧ good3 x.f2
def good41 (x : S41) : Prop := good4 x.f0 ∧ good26 x.f1
def good34 (xs : List (S41)) : Prop := xs.length ≤ maxLen ∧ ∀ x ∈ xs, good41 x
/-- The one plain statement behind the row. -/
def dragomanlaw04_PfxFlat.Pure : Prop := ∀ (x0 : List (S41)), good34 x0 → ∃ k, dragomanlaw04_PfxFlat.f k x0 = some true
end Go.Proofs.Ytgljfjjainlhgaa.PPfxFlat
