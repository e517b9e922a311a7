/- Whether a prefix is in a range, and whether a list takes it: the document's is pfx's: plain lemmas. No conditions. -/
import Derived.Test.YtgljfjjainlhgaaPfIPfxIn
namespace Go.Proofs.Ytgljfjjainlhgaa.PPfxIn
open Go.RowKit Go.Proofs.YtgljfjjainlhgaaW.PrintWords Go.Proofs.YtgljfjjainlhgaaW.PrintLast Go.Proofs.YtgljfjjainlhgaaW.PrintMore
set_option linter.unusedVariables false
set_option linter.unusedSimpArgs false
theorem refIn_eq (k : Nat) (hk : 33 ≤ k) (x : S26) (p0 p1 : Int) : dragomanref04_In.f k x.f0.f0 x.f0.f1 x.f1 x.f2 p0 p1 = pfx_In.f x.f0.f0 x.f0.f1 x.f1 x.f2 p0 p1 := by
  unfold dragomanref04_In.f pfx_In.f dragomanref03_Right.f
  rw [refR_eq k hk, refMask_eq _ _ k hk]
  obtain ⟨br, hbr⟩ := right_total x
  rw [hbr]
  simp only [Option.bind_some]
  cases br with
  | false => rfl
  | true =>
    have hx1 := (rightR_iff x).1 hbr
    have hx2 := mask_fix hx1.1
    rw [if_pos rfl, if_pos rfl]
    obtain ⟨q0, q1, hq, _⟩ := mask_props p0 p1
    rw [hq]
    simp only [Option.bind_some]
    by_cases h0 : (p0 == q0 && (p1 == q1)) = true
    · rw [if_pos h0, if_pos h0]
      have h0' : p0 = q0 ∧ p1 = q1 := by simpa using h0
      obtain ⟨rfl, rfl⟩ := h0'
      have hp := mask_fix hq
      by_cases h1 : p1 ≥ x.f1
      · rw [if_pos h1, if_pos h1]
        by_cases h2 : p1 ≤ x.f2
        · rw [if_pos h2, if_pos h2, begins_eq hp.2.2.2.2.1 hp.2.2.2.2.2.1 hx2.2.2.2.2.1 hx2.2.2.2.2.2.1 hx2.2.2.1 hx2.2.2.2.1, cut_val k hk hp.2.2.2.2.1 hp.2.2.2.2.2.1 hx2.2.2.1 hx2.2.2.2.1]
          simp only [Option.bind_some]
          have hc := cut_iff (a := p0) (s := (32 - x.f0.f1).toNat) (by omega) hx2.2.2.2.2.2.2
          congr 1
          rw [Bool.eq_iff_iff, beq_iff_eq, decide_eq_true_iff]
          exact hc
        · rw [if_neg h2, if_neg h2]
      · rw [if_neg h1, if_neg h1]
    · rw [if_neg h0, if_neg h0]
end Go.Proofs.Ytgljfjjainlhgaa.PPfxIn
