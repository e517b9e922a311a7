/- Two texts one behind the other read as their prefixes one behind the other: the plain statement behind the row. No conditions. -/
import Derived.Test.YtpcjinapcmkbcaaNaNlriJoins
namespace Go.Proofs.Ytpcjinapcmkbcaa.Pure
open Go.RowKit Go.Proofs.Ytpcjinapcmkbcaa.PNlriJoins Go.Proofs.YtpcjinapcmkbcaaW.PrintWords Go.Proofs.YtpcjinapcmkbcaaW.PrintLast
theorem joins_ok (l0 l1 : List Int) (h0 : l0.length ≤ 5000) (h1 : l1.length ≤ 5000) (b0 : ∀ x ∈ l0, 0 ≤ x ∧ x < 256) (b1 : ∀ x ∈ l1, 0 ≤ x ∧ x < 256) (k : Nat) (hk : 20000 < k) : dragomanlaw23_NlriJoins.j0 (k + 1) l0 l1 false = some true := by
  obtain ⟨⟨r0, e0⟩, hr0⟩ := nread_some (l0.length + 1) l0 [] (by omega) (by simp; omega)
  obtain ⟨⟨r1, e1⟩, hr1⟩ := nread_some (l1.length + 1) l1 [] (by omega) (by simp; omega)
  have g0 := nread_len _ _ _ _ hr0
  have g1 := nread_len _ _ _ _ hr1
  simp only [List.length_nil] at g0 g1
  simp only [dragomanlaw23_NlriJoins.j0, Bool.false_eq_true, if_false]
  rw [read_f l0 b0 (by omega), read_f l1 b1 (by omega), hr0, hr1]
  simp only [Option.bind_some, List.nil_append, List.length_nil, Nat.zero_add]
  by_cases hz : e0 = 0
  · subst hz
    have hj := nread_out _ _ r0 [] r1 e1 hr1 (by simp; omega)
    rw [List.append_nil] at hj
    have hj2 := nread_join _ l0 l1 [] r0 _ _ hr0 hj
    have b2 : ∀ x ∈ l0 ++ l1, 0 ≤ x ∧ x < 256 := by
      intro x hx
      rcases List.mem_append.1 hx with h | h
      · exact b0 x h
      · exact b1 x h
    obtain ⟨r2, hr2⟩ := nread_some ((l0 ++ l1).length + 1) (l0 ++ l1) [] (by omega) (by simp; omega)
    have hr2' := nread_more _ _ _ _ hr2 (l1.length + 1 + (l0.length + 1)) (by rw [List.length_append]; omega)
    rw [hj2] at hr2'
    obtain rfl := Option.some.inj hr2'
    rw [if_pos rfl, if_pos (by omega), if_pos (by omega), read_f _ b2 (by rw [List.length_append]; omega), hr2]
    simp only [Option.bind_some]
    by_cases hy : e1 = 0
    · subst hy
      simp only [if_true]
      rw [if_pos (by omega), if_pos (by omega), same_same _ (by rw [List.length_append]; omega) _ (by rw [List.length_append]; omega)]
      rfl
    · rw [if_neg hy, if_neg hy, if_pos trivial]
      rcases nread_err _ _ _ _ _ hr1 with h | rfl
      · exact absurd h hy
      · rfl
  · rw [if_neg hz]
theorem NlriJoins : dragomanlaw23_NlriJoins.Pure := by
  intro l0 l1 _ _ w0 _ _ w1
  have b0 : ∀ x ∈ l0, 0 ≤ x ∧ x < 256 := fun x hx => byte_bd (w0 x hx)
  have b1 : ∀ x ∈ l1, 0 ≤ x ∧ x < 256 := fun x hx => byte_bd (w1 x hx)
  refine ⟨30001, ?_⟩
  unfold dragomanlaw23_NlriJoins.f
  rw [alive_ok _ (by omega)]
  simp only [Option.bind_some, if_true]
  by_cases h0 : (l0.length : Int) > 5000
  · rw [if_pos h0]
    rfl
  · rw [if_neg h0]
    by_cases h1 : (l1.length : Int) > 5000
    · rw [decide_eq_true h1]
      rfl
    · rw [decide_eq_false h1]
      exact joins_ok l0 l1 (by omega) (by omega) b0 b1 30000 (by omega)
end Go.Proofs.Ytpcjinapcmkbcaa.Pure
