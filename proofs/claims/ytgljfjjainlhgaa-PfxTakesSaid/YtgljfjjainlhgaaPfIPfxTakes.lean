/- Whether a prefix is in a range: plain lemmas. No conditions. -/
import Derived.Test.YtgljfjjainlhgaaPfAPfxTakes
namespace Go.Proofs.Ytgljfjjainlhgaa.PPfxTakes
open Go.RowKit Go.Proofs.YtgljfjjainlhgaaW.PrintWords Go.Proofs.YtgljfjjainlhgaaW.PrintLast Go.Proofs.YtgljfjjainlhgaaW.PrintMore
set_option linter.unusedVariables false
set_option linter.unusedSimpArgs false
/-- A prefix is in a range. -/
def InP (x : S26) (p0 p1 : Int) : Prop := RightR x ∧ route_Mask.f p0 p1 = some (p0, p1) ∧ x.f1 ≤ p1 ∧ p1 ≤ x.f2 ∧ p0 / 2 ^ (32 - x.f0.f1).toNat = x.f0.f0 / 2 ^ (32 - x.f0.f1).toNat
theorem in_val (x : S26) (p0 p1 : Int) : ∃ b, pfx_In.f x.f0.f0 x.f0.f1 x.f1 x.f2 p0 p1 = some b ∧ (b = true ↔ InP x p0 p1) := by
  unfold pfx_In.f InP
  obtain ⟨br, hbr⟩ := right_total x
  rw [hbr]
  simp only [Option.bind_some]
  cases br with
  | false =>
    refine ⟨false, rfl, ?_⟩
    simp only [Bool.false_eq_true, false_iff]
    rintro ⟨h, _⟩
    unfold RightR at h
    rw [hbr] at h
    simp at h
  | true =>
    have hR : RightR x := hbr
    have hx1 := (rightR_iff x).1 hR
    have hx2 := mask_fix hx1.1
    rw [if_pos rfl]
    obtain ⟨q0, q1, hq, _⟩ := mask_props p0 p1
    rw [hq]
    simp only [Option.bind_some]
    by_cases h0 : (p0 == q0 && (p1 == q1)) = true
    · rw [if_pos h0]
      have h0' : p0 = q0 ∧ p1 = q1 := by simpa using h0
      obtain ⟨rfl, rfl⟩ := h0'
      have hp := mask_fix hq
      by_cases h1 : p1 ≥ x.f1
      · rw [if_pos h1]
        by_cases h2 : p1 ≤ x.f2
        · rw [if_pos h2, begins_eq hp.2.2.2.2.1 hp.2.2.2.2.2.1 hx2.2.2.2.2.1 hx2.2.2.2.2.2.1 hx2.2.2.1 hx2.2.2.2.1]
          refine ⟨_, rfl, ?_⟩
          rw [decide_eq_true_iff]
          exact ⟨fun h => ⟨hR, rfl, h1, h2, h⟩, fun h => h.2.2.2.2⟩
        · rw [if_neg h2]
          exact ⟨false, rfl, by simp; intros; omega⟩
      · rw [if_neg h1]
        exact ⟨false, rfl, by simp; intros; omega⟩
    · rw [if_neg h0]
      refine ⟨false, rfl, ?_⟩
      simp only [Bool.false_eq_true, false_iff]
      rintro ⟨_, h, _⟩
      apply h0
      simp only [Option.some.injEq, Prod.mk.injEq] at h
      simp [h.1, h.2]
/-- pfx.In's word. -/
def inB (p0 p1 : Int) (x : S26) : Bool := decide (pfx_In.f x.f0.f0 x.f0.f1 x.f1 x.f2 p0 p1 = some true)
theorem inB_iff (x : S26) (p0 p1 : Int) : inB p0 p1 x = true ↔ InP x p0 p1 := by
  unfold inB
  rw [decide_eq_true_iff]
  obtain ⟨b, hb, hi⟩ := in_val x p0 p1
  rw [hb, ← hi]
  simp
theorem in_inB (x : S26) (p0 p1 : Int) : pfx_In.f x.f0.f0 x.f0.f1 x.f1 x.f2 p0 p1 = some (inB p0 p1 x) := by
  unfold inB
  obtain ⟨b, hb, hi⟩ := in_val x p0 p1
  rw [hb]
  cases b <;> rfl
end Go.Proofs.Ytgljfjjainlhgaa.PPfxTakes
