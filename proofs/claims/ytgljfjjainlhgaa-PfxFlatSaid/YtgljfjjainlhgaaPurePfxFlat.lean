/- What any list takes, as ranges, or the error, is the document's, and the list stays: the plain statement behind the row. No conditions. -/
import Derived.Test.YtgljfjjainlhgaaPfSPfxFlat
namespace Go.Proofs.Ytgljfjjainlhgaa.Pure
open Go.RowKit Go.Proofs.Ytgljfjjainlhgaa.PPfxFlat Go.Proofs.YtgljfjjainlhgaaW.PrintWords Go.Proofs.YtgljfjjainlhgaaW.PrintLast
theorem stays (l : List S41) (hl : l.length ≤ 24) (d : Nat) : ∀ (k i : Nat), i + d = l.length → d < k → dragomanlaw04_PfxFlat.l0 k l l l.length i = some true := by
  induction d with
  | zero =>
    intro k i h hk
    obtain ⟨k, rfl⟩ : ∃ m, k = m + 1 := ⟨k - 1, by omega⟩
    simp only [dragomanlaw04_PfxFlat.l0]
    rw [if_neg (by omega)]
  | succ d ih =>
    intro k i h hk
    obtain ⟨k, rfl⟩ : ∃ m, k = m + 1 := ⟨k - 1, by omega⟩
    simp only [dragomanlaw04_PfxFlat.l0]
    rw [if_pos (by omega), if_pos (by omega), if_pos (by omega), if_pos (by omega), if_neg (by simp)]
    rw [show wrap64 ((i : Int) + 1) = ((i + 1 : Nat) : Int) by rw [w64_id (by omega) (by omega)]; omega]
    exact ih k (i + 1) (by omega) (by omega)
theorem PfxFlat : dragomanlaw04_PfxFlat.Pure := by
  intro x0 _
  refine ⟨70001, ?_⟩
  unfold dragomanlaw04_PfxFlat.f
  rw [alive_ok _ (by omega)]
  simp only [Option.bind_some, if_true]
  by_cases hbig : (x0.length : Int) > 24
  · rw [if_pos hbig]
  · rw [if_neg hbig]
    simp only [List.length_nil, List.nil_append]
    rw [if_pos (by omega)]
    obtain ⟨r, e, h1, h2, _, h3, _⟩ := flat_both 70001 x0 (by omega) (by omega)
    rw [h1, h2]
    simp only [Option.bind_some, if_true]
    rw [same_same r (by omega) _ (by omega)]
    simp only [Option.bind_some, Bool.not_true, dragomanlaw04_PfxFlat.j0, Bool.false_eq_true, if_false]
    exact stays x0 (by omega) x0.length 70000 0 (by omega) (by omega)
end Go.Proofs.Ytgljfjjainlhgaa.Pure
