/- Whether any range is right, any prefix in it, and any list takes it, is the document's: the plain statement behind the row. No conditions. -/
import Derived.Test.YtgljfjjainlhgaaPfSPfxIn
namespace Go.Proofs.Ytgljfjjainlhgaa.Pure
open Go.RowKit Go.Proofs.Ytgljfjjainlhgaa.PPfxIn Go.Proofs.YtgljfjjainlhgaaW.PrintWords Go.Proofs.YtgljfjjainlhgaaW.PrintLast
theorem refMatch_l0 (p0 p1 : Int) (l : List S41) (hl : (l.length : Int) ≤ 9223372036854775807) (d : Nat) : ∀ (k i : Nat), i + d = l.length → d + 40 < k → dragomanref04_Match.l0 k l l.length i p0 p1 = some (takes p0 p1 (l.drop i)) := by
  induction d with
  | zero =>
    intro k i h hk
    obtain ⟨k, rfl⟩ : ∃ m, k = m + 1 := ⟨k - 1, by omega⟩
    simp only [dragomanref04_Match.l0]
    rw [if_neg (by omega), List.drop_eq_nil_of_le (by omega)]
    rfl
  | succ d ih =>
    intro k i h hk
    obtain ⟨k, rfl⟩ : ∃ m, k = m + 1 := ⟨k - 1, by omega⟩
    have hlt : i < l.length := by omega
    simp only [dragomanref04_Match.l0]
    rw [if_pos (by omega), if_pos (by omega), if_pos (by omega), rdE_at hlt, refIn_eq k (by omega), List.drop_eq_getElem_cons hlt]
    unfold takes
    obtain ⟨b, hb, _⟩ := in_val l[i].f1 p0 p1
    rw [hb]
    simp only [Option.bind_some]
    cases b with
    | true => rw [if_pos rfl, if_pos rfl]
    | false =>
      rw [if_neg (by simp), if_neg (by simp), show wrap64 ((i : Int) + 1) = ((i + 1 : Nat) : Int) by rw [w64_id (by omega) (by omega)]; omega]
      exact ih k (i + 1) (by omega) (by omega)
theorem in_l0 (p0 p1 : Int) (l : List S41) (hl : (l.length : Int) ≤ 9223372036854775807) (d : Nat) : ∀ (k i : Nat), i + d = l.length → d + l.length + 100 < k → dragomanlaw04_PfxIn.l0 k l l l.length i p0 p1 = some true := by
  induction d with
  | zero =>
    intro k i h hk
    obtain ⟨k, rfl⟩ : ∃ m, k = m + 1 := ⟨k - 1, by omega⟩
    simp only [dragomanlaw04_PfxIn.l0]
    rw [if_neg (by omega), match_val]
    unfold dragomanref04_Match.f
    have := refMatch_l0 p0 p1 l hl l.length k 0 (by omega) (by omega)
    rw [show ((0 : Nat) : Int) = 0 from rfl, List.drop_zero] at this
    rw [this]
    simp
  | succ d ih =>
    intro k i h hk
    obtain ⟨k, rfl⟩ : ∃ m, k = m + 1 := ⟨k - 1, by omega⟩
    have hlt : i < l.length := by omega
    simp only [dragomanlaw04_PfxIn.l0]
    rw [if_pos (by omega), if_pos (by omega), if_pos (by omega), rdE_at hlt, refR_eq k (by omega), refIn_eq k (by omega)]
    obtain ⟨br, hbr⟩ := right_total l[i].f1
    obtain ⟨b, hb, _⟩ := in_val l[i].f1 p0 p1
    rw [hbr, hb]
    simp only [Option.bind_some, bne_self_eq_false, Bool.false_eq_true, if_false]
    rw [show wrap64 ((i : Int) + 1) = ((i + 1 : Nat) : Int) by rw [w64_id (by omega) (by omega)]; omega]
    exact ih k (i + 1) (by omega) (by omega)
theorem PfxIn : dragomanlaw04_PfxIn.Pure := by
  intro x0 x1 hw _
  refine ⟨2 * x0.length + 300, ?_⟩
  unfold dragomanlaw04_PfxIn.f
  rw [alive_ok _ (by omega)]
  simp only [Option.bind_some, if_true]
  exact in_l0 x1.f0 x1.f1 x0 (by have := hw.1; simp only [maxLen] at this; omega) x0.length _ 0 (by omega) (by omega)
end Go.Proofs.Ytgljfjjainlhgaa.Pure
