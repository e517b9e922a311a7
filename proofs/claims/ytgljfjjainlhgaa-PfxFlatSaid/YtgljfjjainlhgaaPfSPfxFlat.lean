/- Same tells true of a list and itself; the document's examples: plain lemmas. No conditions. -/
import Derived.Test.YtgljfjjainlhgaaPfDPfxFlat
namespace Go.Proofs.Ytgljfjjainlhgaa.PPfxFlat
open Go.RowKit Go.Proofs.YtgljfjjainlhgaaW.PrintWords Go.Proofs.YtgljfjjainlhgaaW.PrintLast Go.Proofs.YtgljfjjainlhgaaW.PrintMore
set_option linter.unusedVariables false
set_option linter.unusedSimpArgs false
theorem same_self (l : List S26) (hl : l.length ≤ 1000000) (d : Nat) : ∀ (k i : Nat), i + d = l.length → d < k → dragomanref04_Same.l0 k l l l.length i = some true := by
  induction d with
  | zero =>
    intro k i h hk
    obtain ⟨k, rfl⟩ : ∃ m, k = m + 1 := ⟨k - 1, by omega⟩
    simp only [dragomanref04_Same.l0]
    rw [if_neg (by omega)]
  | succ d ih =>
    intro k i h hk
    obtain ⟨k, rfl⟩ : ∃ m, k = m + 1 := ⟨k - 1, by omega⟩
    simp only [dragomanref04_Same.l0]
    rw [if_pos (by omega), if_pos (by omega), if_pos (by omega), if_pos (by omega), if_neg (by simp)]
    rw [show wrap64 ((i : Int) + 1) = ((i + 1 : Nat) : Int) by rw [w64_id (by omega) (by omega)]; omega]
    exact ih k (i + 1) (by omega) (by omega)
theorem same_same (l : List S26) (hl : l.length ≤ 1000000) (k : Nat) (hk : l.length < k) : dragomanref04_Same.f k l l = some true := by
  unfold dragomanref04_Same.f
  rw [if_pos rfl]
  exact same_self l hl l.length k 0 (by omega) hk
theorem alive_one : dragomanlaw04_alive.f 200 = some true := by kernel_rfl
theorem alive_ok (k : Nat) (hk : 200 ≤ k) : dragomanlaw04_alive.f k = some true := by
  induction k with
  | zero => omega
  | succ k ih =>
    by_cases h : 200 ≤ k
    · exact dragomanlaw04_alive.mono k _ (ih h)
    · obtain rfl : k = 199 := by omega
      exact alive_one
end Go.Proofs.Ytgljfjjainlhgaa.PPfxFlat
