/- Contracts of functions over the abstract machine. No conditions: lemmas alone. -/
import Derived.Test.YtbjipdmbdabniaaAttrBackLibD
namespace Go.Proofs.Ytbjipdmbdabniaa.Ax
open Go Go.RowKit
set_option linter.unusedVariables false
set_option linter.unusedSimpArgs false
set_option maxRecDepth 100000
set_option maxHeartbeats 20000000
attribute [local irreducible] thenA blockA scopeA retA AL AW AD ADL AH clrK CallA apure aload bload appK ptrK fnK ares szOk planOk okOps
def foursL (xs : List Int) : List Int := xs.flatMap fun n => [n / 16777216, n / 65536 % 256, n / 256 % 256, n % 256]
theorem foursL_length (xs : List Int) : (foursL xs).length = 4 * xs.length := by induction xs with | nil => rfl | cons x xs ih => simp [foursL] at ih ⊢; omega
end Go.Proofs.Ytbjipdmbdabniaa.Ax
