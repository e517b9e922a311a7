/- What Meet and Minus leave, counted: plain lemmas. No conditions. -/
import Derived.Test.YtgljfjjainlhgaaPfIPfxTakes
namespace Go.Proofs.Ytgljfjjainlhgaa.PPfxTakes
open Go.RowKit Go.Proofs.YtgljfjjainlhgaaW.PrintWords Go.Proofs.YtgljfjjainlhgaaW.PrintLast Go.Proofs.YtgljfjjainlhgaaW.PrintMore
set_option linter.unusedVariables false
set_option linter.unusedSimpArgs false
/-- An address's first n bits. -/
def top (x n : Int) : Int := x / 2 ^ (32 - n).toNat
theorem begins_top {a p l : Int} (a0 : 0 ≤ a) (a1 : a < 4294967296) (p0 : 0 ≤ p) (p1 : p < 4294967296) (l0 : 0 ≤ l) (l1 : l ≤ 32) : pfx_begins.f a p l = some (decide (top a l = top p l)) := begins_eq a0 a1 p0 p1 l0 l1
theorem top_le {x i j : Int} (i0 : 0 ≤ i) (h : i ≤ j) (j1 : j ≤ 32) : top x i = top x j / 2 ^ (j - i).toNat := by
  unfold top
  have hp := pow_bd' (n := (32 - j).toNat) (by omega)
  rw [show (32 - i).toNat = (32 - j).toNat + (j - i).toNat by omega, Int.pow_add, Int.ediv_ediv_of_nonneg (by omega)]
theorem top_mono {x y i j : Int} (i0 : 0 ≤ i) (h : i ≤ j) (j1 : j ≤ 32) (he : top x j = top y j) : top x i = top y i := by
  rw [top_le i0 h j1, top_le i0 h j1, he]
def turn (q : Int) : Int := if q % 2 = 1 then q - 1 else q + 1
theorem turn_ne (q : Int) : turn q ≠ q := by unfold turn; split <;> omega
theorem turn_half (y q : Int) : y / 2 = q / 2 ↔ y = q ∨ y = turn q := by unfold turn; split <;> omega
theorem top_step {x n : Int} (n0 : 1 ≤ n) (n1 : n ≤ 32) : top x (n - 1) = top x n / 2 := by
  rw [top_le (by omega) (show n - 1 ≤ n by omega) n1, show (n - (n - 1)).toNat = 1 by omega]
  rfl
theorem top_prev {x y n : Int} (n0 : 1 ≤ n) (n1 : n ≤ 32) : top x (n - 1) = top y (n - 1) ↔ top x n = top y n ∨ top x n = turn (top y n) := by
  rw [top_step n0 n1, top_step n0 n1]
  exact turn_half _ _
theorem inP_iff (x : S26) (hx : RightR x) (p0 p1 : Int) : InP x p0 p1 ↔ route_Mask.f p0 p1 = some (p0, p1) ∧ x.f1 ≤ p1 ∧ p1 ≤ x.f2 ∧ top p0 x.f0.f1 = top x.f0.f0 x.f0.f1 := by
  unfold InP top
  exact ⟨fun h => h.2, fun h => ⟨hx, h⟩⟩
/-- What is in both. -/
theorem meet_sem (k : Nat) (hk : 100 ≤ k) (a b : S26) (ha : RightR a) (hb : RightR b) : ∃ m0 m1 m2 m3 ok, pfx_Meet.f k a.f0.f0 a.f0.f1 a.f1 a.f2 b.f0.f0 b.f0.f1 b.f1 b.f2 = some (m0, m1, m2, m3, ok) ∧
    (ok = true → (route_Mask.f m0 m1 = some (m0, m1) ∧ a.f0.f1 ≤ m1 ∧ m1 ≤ m2 ∧ m2 ≤ m3 ∧ a.f1 ≤ m2 ∧ m3 ≤ a.f2) ∧ top m0 a.f0.f1 = top a.f0.f0 a.f0.f1 ∧ ∀ p0 p1, (InP a p0 p1 ∧ InP b p0 p1 ↔ route_Mask.f p0 p1 = some (p0, p1) ∧ m2 ≤ p1 ∧ p1 ≤ m3 ∧ top p0 m1 = top m0 m1)) ∧
    (ok = false → ∀ p0 p1, ¬ (InP a p0 p1 ∧ InP b p0 p1)) := by
  have ha1 := (rightR_iff a).1 ha
  have hb1 := (rightR_iff b).1 hb
  have ha2 := mask_fix ha1.1
  have hb2 := mask_fix hb1.1
  have ia := inP_iff a ha
  have ib := inP_iff b hb
  obtain ⟨k, rfl⟩ : ∃ j, k = j + 1 := ⟨k - 1, by omega⟩
  unfold pfx_Meet.f
  rw [show pfx_Right.f a.f0.f0 a.f0.f1 a.f1 a.f2 = some true from ha, show pfx_Right.f b.f0.f0 b.f0.f1 b.f1 b.f2 = some true from hb]
  simp only [Option.bind_some, if_true, Bool.not_true, pfx_Meet.j0, Bool.false_eq_true, if_false]
  by_cases hl : a.f0.f1 > b.f0.f1
  · rw [if_pos hl, begins_top ha2.2.2.2.2.1 ha2.2.2.2.2.2.1 hb2.2.2.2.2.1 hb2.2.2.2.2.2.1 hb2.2.2.1 hb2.2.2.2.1]
    simp only [Option.bind_some]
    by_cases h1 : top a.f0.f0 b.f0.f1 = top b.f0.f0 b.f0.f1
    · rw [if_pos (decide_eq_true h1)]
      by_cases h2 : mx b.f1 a.f1 > mn b.f2 a.f2
      · rw [if_pos h2]
        refine ⟨_, _, _, _, _, rfl, by simp, fun _ p0 p1 => ?_⟩
        rw [ia, ib]
        rintro ⟨⟨_, g1, g2, _⟩, _, g3, g4, _⟩
        unfold mx mn at h2
        split at h2 <;> split at h2 <;> omega
      · rw [if_neg h2]
        refine ⟨_, _, _, _, _, rfl, fun _ => ⟨⟨ha1.1, by omega, ?_, by omega, ?_, ?_⟩, rfl, fun p0 p1 => ?_⟩, by simp⟩
        · unfold mx mn at *; split <;> omega
        · unfold mx mn at *; split <;> omega
        · unfold mx mn at *; split <;> omega
        · rw [ia, ib]
          have e1 : mx b.f1 a.f1 ≤ p1 ↔ a.f1 ≤ p1 ∧ b.f1 ≤ p1 := by unfold mx; split <;> omega
          have e2 : p1 ≤ mn b.f2 a.f2 ↔ p1 ≤ a.f2 ∧ p1 ≤ b.f2 := by unfold mn; split <;> omega
          rw [e1, e2]
          constructor
          · rintro ⟨⟨g0, g1, g2, g3⟩, _, g4, g5, _⟩
            exact ⟨g0, ⟨g1, g4⟩, ⟨g2, g5⟩, g3⟩
          · rintro ⟨g0, ⟨g1, g4⟩, ⟨g2, g5⟩, g3⟩
            exact ⟨⟨g0, g1, g2, g3⟩, g0, g4, g5, (top_mono (by omega) (by omega) (by omega) g3).trans h1⟩
    · rw [if_neg (by rw [decide_eq_true_iff]; exact h1)]
      refine ⟨_, _, _, _, _, rfl, by simp, fun _ p0 p1 => ?_⟩
      rw [ia, ib]
      rintro ⟨⟨_, _, _, g3⟩, _, _, _, g4⟩
      exact h1 ((top_mono (by omega) (by omega) (by omega) g3).symm.trans g4)
  · rw [if_neg hl, begins_top hb2.2.2.2.2.1 hb2.2.2.2.2.2.1 ha2.2.2.2.2.1 ha2.2.2.2.2.2.1 ha2.2.2.1 ha2.2.2.2.1]
    simp only [Option.bind_some]
    by_cases h1 : top b.f0.f0 a.f0.f1 = top a.f0.f0 a.f0.f1
    · rw [if_pos (decide_eq_true h1)]
      by_cases h2 : mx a.f1 b.f1 > mn a.f2 b.f2
      · rw [if_pos h2]
        refine ⟨_, _, _, _, _, rfl, by simp, fun _ p0 p1 => ?_⟩
        rw [ia, ib]
        rintro ⟨⟨_, g1, g2, _⟩, _, g3, g4, _⟩
        unfold mx mn at h2
        split at h2 <;> split at h2 <;> omega
      · rw [if_neg h2]
        refine ⟨_, _, _, _, _, rfl, fun _ => ⟨⟨hb1.1, by omega, ?_, by omega, ?_, ?_⟩, h1, fun p0 p1 => ?_⟩, by simp⟩
        · unfold mx mn at *; split <;> omega
        · unfold mx mn at *; split <;> omega
        · unfold mx mn at *; split <;> omega
        · rw [ia, ib]
          have e1 : mx a.f1 b.f1 ≤ p1 ↔ a.f1 ≤ p1 ∧ b.f1 ≤ p1 := by unfold mx; split <;> omega
          have e2 : p1 ≤ mn a.f2 b.f2 ↔ p1 ≤ a.f2 ∧ p1 ≤ b.f2 := by unfold mn; split <;> omega
          rw [e1, e2]
          constructor
          · rintro ⟨⟨g0, g1, g2, _⟩, _, g4, g5, g3⟩
            exact ⟨g0, ⟨g1, g4⟩, ⟨g2, g5⟩, g3⟩
          · rintro ⟨g0, ⟨g1, g4⟩, ⟨g2, g5⟩, g3⟩
            exact ⟨⟨g0, g1, g2, (top_mono (by omega) (by omega) (by omega) g3).trans h1⟩, g0, g4, g5, g3⟩
    · rw [if_neg (by rw [decide_eq_true_iff]; exact h1)]
      refine ⟨_, _, _, _, _, rfl, by simp, fun _ p0 p1 => ?_⟩
      rw [ia, ib]
      rintro ⟨⟨_, _, _, g3⟩, _, _, _, g4⟩
      exact h1 ((top_mono (by omega) (by omega) (by omega) g4).symm.trans g3)
end Go.Proofs.Ytgljfjjainlhgaa.PPfxTakes
