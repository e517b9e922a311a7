/- What the parameters of this seat's laws read as. No conditions: definitions and lemmas alone. Written by a program of this session (axrow.py). -/
import Derived.Test.YtbjipdmbdabniaaAttrJoinsRow
import Derived.Test.YtbjipdmbdabniaaAttrJoinsLibD
namespace Go.Proofs.Ytbjipdmbdabniaa.Ax
open Go Go.RowKit
set_option linter.unusedVariables false
set_option linter.unusedSimpArgs false
set_option maxRecDepth 100000
def In22 (M : Mem) (v : Value) : Prop := (KSl .u8) M [v]
end Go.Proofs.Ytbjipdmbdabniaa.Ax
