/- What the parameters of this seat's laws read as. No conditions: definitions and lemmas alone. Written by a program of this session (axrow.py). -/
import Derived.Test.YtbjipdmbdabniaaAttrUnknownRow
import Derived.Test.YtbjipdmbdabniaaAttrUnknownLibD
namespace Go.Proofs.Ytbjipdmbdabniaa.Ax
open Go Go.RowKit
set_option linter.unusedVariables false
set_option linter.unusedSimpArgs false
set_option maxRecDepth 100000
theorem rd37 (W : World) : Reads Try.prog W 37 (KAll [(KSl .u8), (KInt .u8), (KInt .u8), (KSl .u8)]) := rd_struct Try.underlying37 (by kernel_rfl) ⟨(rd_sl (e := 5) (k := .u8) (by kernel_rfl) (by kernel_rfl) (by kernel_rfl)), (KSl.keeps _), (rd_int (by kernel_rfl)), (KInt.keeps _), (rd_int (by kernel_rfl)), (KInt.keeps _), (rd_sl (e := 5) (k := .u8) (by kernel_rfl) (by kernel_rfl) (by kernel_rfl)), (KSl.keeps _), trivial⟩
def In37 (M : Mem) (v : Value) : Prop := ∃ acs, v = .agg ⟨acs⟩ ∧ (KAll [(KSl .u8), (KInt .u8), (KInt .u8), (KSl .u8)]) M acs
end Go.Proofs.Ytbjipdmbdabniaa.Ax
