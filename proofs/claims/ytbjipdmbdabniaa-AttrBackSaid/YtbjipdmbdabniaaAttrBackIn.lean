/- What the parameters of this seat's laws read as. No conditions: definitions and lemmas alone. Written by a program of this session (axrow.py). -/
import Derived.Test.YtbjipdmbdabniaaAttrBackRow
import Derived.Test.YtbjipdmbdabniaaAttrBackLibD
namespace Go.Proofs.Ytbjipdmbdabniaa.Ax
open Go Go.RowKit
set_option linter.unusedVariables false
set_option linter.unusedSimpArgs false
set_option maxRecDepth 100000
theorem keeps39 : KeepsAll [(KInt .i64), (KSl .u32), (KInt .u32), (KInt .u32), (KInt .u32), KBool, KBool, (KSl .u32)] := ⟨(KInt.keeps _), (KSl.keeps _), (KInt.keeps _), (KInt.keeps _), (KInt.keeps _), KBool.keeps, KBool.keeps, (KSl.keeps _), trivial⟩
theorem rd39 (W : World) : Reads Try.prog W 39 (KAll [(KInt .i64), (KSl .u32), (KInt .u32), (KInt .u32), (KInt .u32), KBool, KBool, (KSl .u32)]) := rd_struct Try.underlying39 (by kernel_rfl) ⟨(rd_int (by kernel_rfl)), (KInt.keeps _), (rd_sl (e := 25) (k := .u32) (by kernel_rfl) (by kernel_rfl) (by kernel_rfl)), (KSl.keeps _), (rd_int (by kernel_rfl)), (KInt.keeps _), (rd_int (by kernel_rfl)), (KInt.keeps _), (rd_int (by kernel_rfl)), (KInt.keeps _), (rd_bool (by kernel_rfl)), KBool.keeps, (rd_bool (by kernel_rfl)), KBool.keeps, (rd_sl (e := 25) (k := .u32) (by kernel_rfl) (by kernel_rfl) (by kernel_rfl)), (KSl.keeps _), trivial⟩
def In22 (M : Mem) (v : Value) : Prop := (KSl .u8) M [v]
def In39 (M : Mem) (v : Value) : Prop := ∃ acs, v = .agg ⟨acs⟩ ∧ (KAll [(KInt .i64), (KSl .u32), (KInt .u32), (KInt .u32), (KInt .u32), KBool, KBool, (KSl .u32)]) M acs
end Go.Proofs.Ytbjipdmbdabniaa.Ax
