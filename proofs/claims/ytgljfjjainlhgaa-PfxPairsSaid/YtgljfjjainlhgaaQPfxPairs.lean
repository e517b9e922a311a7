/- Written for this claim by a program of this session, after the kit's print. Not trusted: Lean checks it. -/
import Derived.Test.YtgljfjjainlhgaaPPfxPairsx11
namespace Go.Proofs.Ytgljfjjainlhgaa.PPfxPairs
open Go.RowKit Go.Proofs.YtgljfjjainlhgaaW.PrintWords
set_option linter.unusedVariables false
def good22 (x : Int) : Prop := (Lit.int .u32 x).wf = true
def good3 (x : Int) : Prop := (Lit.int .i64 x).wf = true
def good24 (x : S24) : Prop := good22 x.f0 ∧ good3 x.f1
def good26 (x : S26) : Prop := good24 x.f0 ∧ good3 x.f1 ∧ good3 x.f2
/-- The one plain statement behind the row. -/
def dragomanlaw04_PfxPairs.Pure : Prop := ∀ (x0 : S26) (x1 : S26), good26 x0 → good26 x1 → ∃ k, dragomanlaw04_PfxPairs.f k x0.f0.f0 x0.f0.f1 x0.f1 x0.f2 x1.f0.f0 x1.f0.f1 x1.f1 x1.f2 = some true
end Go.Proofs.Ytgljfjjainlhgaa.PPfxPairs
