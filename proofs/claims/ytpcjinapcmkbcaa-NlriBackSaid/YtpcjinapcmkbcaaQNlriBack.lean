/- Written for this claim by a program of this session, after the kit's print. Not trusted: Lean checks it. -/
import Derived.Test.YtpcjinapcmkbcaaPNlriBackx4
namespace Go.Proofs.Ytpcjinapcmkbcaa.PNlriBack
open Go.RowKit Go.Proofs.YtpcjinapcmkbcaaW.PrintWords
set_option linter.unusedVariables false
def good32 (x : Int) : Prop := (Lit.int .u32 x).wf = true
def good3 (x : Int) : Prop := (Lit.int .i64 x).wf = true
def good34 (x : S34) : Prop := good32 x.f0 ∧ good3 x.f1
def good22 (xs : List (S34)) : Prop := xs.length ≤ maxLen ∧ ∀ x ∈ xs, good34 x
def good5 (x : Int) : Prop := (Lit.int .u8 x).wf = true
def good24 (xs : List Int) : Prop := xs.length ≤ maxLen ∧ ∀ x ∈ xs, good5 x
/-- The one plain statement behind the row. -/
def dragomanlaw23_NlriBack.Pure : Prop := ∀ (x0 : List (S34)) (x1 : List Int), good22 x0 → good24 x1 → ∃ k, dragomanlaw23_NlriBack.f k x0 x1 = some true
end Go.Proofs.Ytpcjinapcmkbcaa.PNlriBack
