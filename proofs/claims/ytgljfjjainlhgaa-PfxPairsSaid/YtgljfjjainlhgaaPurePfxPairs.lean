/- What is in both of two ranges, and in the first one alone, is the document's: the plain statement behind the row. No conditions. -/
import Derived.Test.YtgljfjjainlhgaaPfSPfxPairs
namespace Go.Proofs.Ytgljfjjainlhgaa.Pure
open Go.RowKit Go.Proofs.Ytgljfjjainlhgaa.PPfxPairs Go.Proofs.YtgljfjjainlhgaaW.PrintWords Go.Proofs.YtgljfjjainlhgaaW.PrintLast
theorem minus_any (k : Nat) (hk : 100 ≤ k) (a b : S26) : ∃ m, pfx_Minus.f k a.f0.f0 a.f0.f1 a.f1 a.f2 b.f0.f0 b.f0.f1 b.f1 b.f2 = some m ∧ m.length ≤ 40 := by
  obtain ⟨ba, hba⟩ := right_total a
  obtain ⟨bb, hbb⟩ := right_total b
  cases ba with
  | false =>
    refine ⟨[], ?_, by simp⟩
    unfold pfx_Minus.f
    rw [hba]
    rfl
  | true =>
    cases bb with
    | true =>
      obtain ⟨m, h1, _, h2⟩ := minus_total k hk a b hba hbb
      exact ⟨m, h1, h2⟩
    | false =>
      refine ⟨[a], ?_, by simp⟩
      obtain ⟨j, rfl⟩ : ∃ j, k = j + 1 := ⟨k - 1, by omega⟩
      unfold pfx_Minus.f pfx_Meet.f
      rw [hba, hbb]
      rfl
theorem meet_any (k : Nat) (hk : 100 ≤ k) (a b : S26) : ∃ m, pfx_Meet.f k a.f0.f0 a.f0.f1 a.f1 a.f2 b.f0.f0 b.f0.f1 b.f1 b.f2 = some m := by
  obtain ⟨ba, hba⟩ := right_total a
  obtain ⟨bb, hbb⟩ := right_total b
  obtain ⟨j, rfl⟩ : ∃ j, k = j + 1 := ⟨k - 1, by omega⟩
  cases ba with
  | false =>
    unfold pfx_Meet.f
    rw [hba]
    exact ⟨_, rfl⟩
  | true =>
    cases bb with
    | true =>
      obtain ⟨m0, m1, m2, m3, ok, h, _⟩ := meet_total (j + 1) hk a b hba hbb
      exact ⟨_, h⟩
    | false =>
      unfold pfx_Meet.f
      rw [hba, hbb]
      exact ⟨_, rfl⟩
theorem PfxPairs : dragomanlaw04_PfxPairs.Pure := by
  intro x0 x1 _ _
  refine ⟨3000, ?_⟩
  unfold dragomanlaw04_PfxPairs.f
  rw [alive_ok _ (by omega)]
  simp only [Option.bind_some, if_true]
  obtain ⟨m, hm⟩ := meet_any 3000 (by omega) x0 x1
  obtain ⟨r, hr, hl⟩ := minus_any 3000 (by omega) x0 x1
  rw [refMeet_eq 3000 (by omega) x0 x1, hm]
  simp only [Option.bind_some]
  rw [if_pos (by simp), if_pos (by simp), hr, refMinus_eq 3000 (by omega) x0 x1 r hr]
  simp only [Option.bind_some]
  rw [same_same r (by omega) _ (by omega)]
  rfl
end Go.Proofs.Ytgljfjjainlhgaa.Pure
