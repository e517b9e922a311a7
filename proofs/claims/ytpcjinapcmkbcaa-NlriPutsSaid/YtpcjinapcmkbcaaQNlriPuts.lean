/- Written for this claim by a program of this session, after the kit's print. Not trusted: Lean checks it. -/
import Derived.Test.YtpcjinapcmkbcaaPNlriPutsx4
namespace Go.Proofs.Ytpcjinapcmkbcaa.PNlriPuts
open Go.RowKit Go.Proofs.YtpcjinapcmkbcaaW.PrintWords
set_option linter.unusedVariables false
def good32 (x : Int) : Prop := (Lit.int .u32 x).wf = true
def good3 (x : Int) : Prop := (Lit.int .i64 x).wf = true
def good34 (x : S34) : Prop := good32 x.f0 ∧ good3 x.f1
def good22 (xs : List (S34)) : Prop := xs.length ≤ maxLen ∧ ∀ x ∈ xs, good34 x
/-- The one plain statement behind the row. -/
def dragomanlaw23_NlriPuts.Pure : Prop := ∀ (x0 : List (S34)), good22 x0 → ∃ k, dragomanlaw23_NlriPuts.f k x0 = some true
end Go.Proofs.Ytpcjinapcmkbcaa.PNlriPuts
