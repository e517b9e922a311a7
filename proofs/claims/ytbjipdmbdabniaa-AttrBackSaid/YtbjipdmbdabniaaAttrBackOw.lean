/- Contracts of functions over the abstract machine. No conditions: lemmas alone. -/
import Derived.Test.YtbjipdmbdabniaaAttrBackLibD
import Derived.Test.YtbjipdmbdabniaaAttrBackAt0
namespace Go.Proofs.Ytbjipdmbdabniaa.Ax
open Go Go.RowKit
set_option linter.unusedVariables false
set_option linter.unusedSimpArgs false
set_option maxRecDepth 100000
set_option maxHeartbeats 20000000
/-! rows of numbers of our own, written to -/
theorem or16 {x : Int} (hx : x = 64 ∨ x = 128 ∨ x = 192 ∨ x = 0) : bits .u8 (BitVec.ofInt IntKind.u8.bits x ||| BitVec.ofInt IntKind.u8.bits 16) = .int .u8 (x + 16) := by
  rcases hx with rfl | rfl | rfl | rfl <;> kernel_rfl

end Go.Proofs.Ytbjipdmbdabniaa.Ax
