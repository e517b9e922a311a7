/- The document's Meet is pfx's: plain lemmas. No conditions. -/
import Derived.Test.YtgljfjjainlhgaaPfBPfxFlat
namespace Go.Proofs.Ytgljfjjainlhgaa.PPfxFlat
open Go.RowKit Go.Proofs.YtgljfjjainlhgaaW.PrintWords Go.Proofs.YtgljfjjainlhgaaW.PrintLast Go.Proofs.YtgljfjjainlhgaaW.PrintMore
set_option linter.unusedVariables false
set_option linter.unusedSimpArgs false
theorem refMeet_eq (k : Nat) (hk : 100 ≤ k) (a b : S26) : dragomanref04_Meet.f k a.f0.f0 a.f0.f1 a.f1 a.f2 b.f0.f0 b.f0.f1 b.f1 b.f2 = pfx_Meet.f k a.f0.f0 a.f0.f1 a.f1 a.f2 b.f0.f0 b.f0.f1 b.f1 b.f2 := by
  obtain ⟨k, rfl⟩ : ∃ m, k = m + 2 := ⟨k - 2, by omega⟩
  unfold dragomanref04_Meet.f pfx_Meet.f
  rw [refR_eq _ (by omega), refR_eq _ (by omega)]
  obtain ⟨ba, hba⟩ := right_total a
  obtain ⟨bb, hbb⟩ := right_total b
  rw [hba, hbb]
  simp only [Option.bind_some]
  cases ba with
  | false => rfl
  | true =>
    cases bb with
    | false => rfl
    | true =>
      have ha1 := (rightR_iff a).1 hba
      have hb1 := (rightR_iff b).1 hbb
      have ha2 := mask_fix ha1.1
      have hb2 := mask_fix hb1.1
      obtain ⟨⟨a0, a1⟩, a2, a3⟩ := a
      obtain ⟨⟨b0, b1⟩, b2, b3⟩ := b
      simp only at ha1 hb1 ha2 hb2 ⊢
      obtain ⟨_, _, ha2, ha3, ha4, ha5, ha6⟩ := ha2
      obtain ⟨_, _, hb2, hb3, hb4, hb5, hb6⟩ := hb2
      have hca := cut_iff (a := b0) (s := (32 - a1).toNat) (by omega) ha6
      have hcb := cut_iff (a := a0) (s := (32 - b1).toNat) (by omega) hb6
      simp only [if_true, Bool.not_true, dragomanref04_Meet.j0, pfx_Meet.j0, dragomanref04_Meet.j1, Bool.false_eq_true, if_false]
      by_cases hl : a1 > b1
      · rw [if_pos hl, if_neg (show ¬ b1 > a1 by omega), begins_eq ha4 ha5 hb4 hb5 hb2 hb3, cut_val _ (by omega) ha4 ha5 ha2 ha3, cut_val _ (by omega) ha4 ha5 hb2 hb3]
        simp only [Option.bind_some]
        rw [if_pos (div_mul_self ha6)]
        have e1 : mx (mx a2 b2) a1 = mx b2 a2 := by unfold mx; split <;> split <;> split <;> omega
        have e2 : mn a3 b3 = mn b3 a3 := by unfold mn; split <;> split <;> omega
        rw [e1, e2]
        by_cases h : a0 / 2 ^ (32 - b1).toNat = b0 / 2 ^ (32 - b1).toNat
        · rw [if_pos (hcb.2 h), decide_eq_true h]
          rfl
        · rw [if_neg (fun h' => h (hcb.1 h')), decide_eq_false h]
          rfl
      · rw [if_neg hl, begins_eq hb4 hb5 ha4 ha5 ha2 ha3]
        simp only [Option.bind_some]
        by_cases hl2 : b1 > a1
        · rw [if_pos hl2, cut_val _ (by omega) hb4 hb5 ha2 ha3, cut_val _ (by omega) hb4 hb5 hb2 hb3]
          simp only [Option.bind_some]
          rw [if_pos (div_mul_self hb6)]
          have e1 : mx (mx a2 b2) b1 = mx a2 b2 := by unfold mx; split <;> split <;> omega
          rw [e1]
          by_cases h : b0 / 2 ^ (32 - a1).toNat = a0 / 2 ^ (32 - a1).toNat
          · rw [if_pos (hca.2 h), decide_eq_true h]
            rfl
          · rw [if_neg (fun h' => h (hca.1 h')), decide_eq_false h]
            rfl
        · obtain rfl : a1 = b1 := by omega
          rw [if_neg hl2, cut_val _ (by omega) ha4 ha5 ha2 ha3]
          simp only [Option.bind_some]
          rw [if_pos (div_mul_self ha6), div_mul_self ha6]
          have e1 : mx (mx a2 b2) a1 = mx a2 b2 := by unfold mx; split <;> split <;> omega
          rw [e1]
          by_cases h : b0 / 2 ^ (32 - a1).toNat = a0 / 2 ^ (32 - a1).toNat
          · have h' : b0 = a0 := by rw [← div_mul_self hb6, h, div_mul_self ha6]
            subst h'
            simp
          · have h' : ¬ a0 = b0 := fun e => h (by rw [e])
            rw [if_neg h', decide_eq_false h]
            rfl
end Go.Proofs.Ytgljfjjainlhgaa.PPfxFlat
