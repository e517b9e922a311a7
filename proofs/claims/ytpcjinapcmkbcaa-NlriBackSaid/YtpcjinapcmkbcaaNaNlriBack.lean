/- The document's examples, as the printed functions tell them. -/
import Derived.Test.YtpcjinapcmkbcaaNlGNlriBack
namespace Go.Proofs.Ytpcjinapcmkbcaa.PNlriBack
open Go.RowKit Go.Proofs.YtpcjinapcmkbcaaW.PrintWords Go.Proofs.YtpcjinapcmkbcaaW.PrintLast Go.Proofs.YtpcjinapcmkbcaaW.PrintMore
theorem ex1 : nlri_Put.f [⟨167837696, 16⟩] = some ([16, 10, 1], 0) := by kernel_rfl
theorem ex2 : nlri_Read.f [9, 10, 255] = some ([⟨176160768, 9⟩], 0) := by kernel_rfl
theorem ex3 : nlri_Read.f [33] = some ([], 5) := by kernel_rfl
theorem ex4 : nlri_Read.f [8] = some ([], 3) := by kernel_rfl
theorem alive_ok (k : Nat) (hk : 10 ≤ k) : dragomanlaw23_alive.f k = some true := by
  unfold dragomanlaw23_alive.f
  rw [ex1, ex2, ex3, ex4]
  simp only [Option.bind_some, if_true]
  rw [bytes_same _ (by simp) k (by simp; omega)]
  simp only [Option.bind_some, if_true]
  rw [same_same _ (by simp) k (by simp; omega)]
  rfl
end Go.Proofs.Ytpcjinapcmkbcaa.PNlriBack
