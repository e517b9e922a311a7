/- What Flat tells is right, and it tells something: plain lemmas. No conditions. -/
import Derived.Test.YtgljfjjainlhgaaPfXPfxFlat
namespace Go.Proofs.Ytgljfjjainlhgaa.PPfxFlat
open Go.RowKit Go.Proofs.YtgljfjjainlhgaaW.PrintWords Go.Proofs.YtgljfjjainlhgaaW.PrintLast Go.Proofs.YtgljfjjainlhgaaW.PrintMore
set_option linter.unusedVariables false
set_option linter.unusedSimpArgs false
theorem minus_more {k : Nat} (hk : 100 ≤ k) {a0 a1 a2 a3 b0 b1 b2 b3 : Int} {m : List S26} (h : pfx_Minus.f 100 a0 a1 a2 a3 b0 b1 b2 b3 = some m) : pfx_Minus.f k a0 a1 a2 a3 b0 b1 b2 b3 = some m := by
  induction k with
  | zero => omega
  | succ k ih =>
    by_cases hk' : 100 ≤ k
    · exact pfx_Minus.mono _ _ _ _ _ _ _ _ k _ (ih hk')
    · obtain rfl : k = 99 := by omega
      exact h
theorem flatL_more {k : Nat} (hk : 100 ≤ k) {l : List S41} {out : List S26} {r : List S26 × Int} (h : flatL 100 l out = some r) : flatL k l out = some r := by
  induction k with
  | zero => omega
  | succ k ih =>
    by_cases hk' : 100 ≤ k
    · exact flatL.mono k _ _ _ (ih hk')
    · obtain rfl : k = 99 := by omega
      exact h
theorem flatS_total (e : S41) (he : RightR e.f1) (out : List S26) (ho : out.length ≤ 1024) (hr : ∀ x ∈ out, RightR x) : ∃ left, flatS 100 e out = some left ∧ (∀ x ∈ left, RightR x) ∧ left.length ≤ 50000 := by
  obtain ⟨left, h1, h2, h3⟩ := flatM_total 100 (by omega) e he out [] hr (by simp) (by simp; omega)
  simp only [List.length_nil] at h3
  unfold flatS
  rw [h1]
  simp only [Option.bind_some]
  by_cases hd : e.f0 = true
  · rw [if_pos hd]
    exact ⟨left, rfl, h2, by omega⟩
  · rw [if_neg hd]
    refine ⟨_, rfl, fun x hx => ?_, by rw [List.length_append]; simp; omega⟩
    rcases List.mem_append.1 hx with h | h
    · exact h2 x h
    · rw [List.mem_singleton.1 h]
      exact he
theorem flatL_total : ∀ (l : List S41) (out : List S26), out.length ≤ 1024 → (∀ x ∈ out, RightR x) → ∃ r e, flatL 100 l out = some (r, e) ∧ (e = 0 ∨ r = [] ∧ e = 6) ∧ r.length ≤ 1024 ∧ (∀ x ∈ r, RightR x)
  | [], out, ho, hr => ⟨out, 0, rfl, .inl rfl, ho, hr⟩
  | e :: l, out, ho, hr => by
    obtain ⟨b, hb⟩ := right_total e.f1
    unfold flatL
    rw [hb]
    simp only [Option.bind_some]
    cases b with
    | false => exact flatL_total l out ho hr
    | true =>
      obtain ⟨left, h1, h2, h3⟩ := flatS_total e hb out ho hr
      rw [if_pos rfl, h1]
      simp only [Option.bind_some]
      by_cases hf : (left.length : Int) > 1024
      · rw [if_pos hf]
        exact ⟨[], 6, rfl, .inr ⟨rfl, rfl⟩, by simp, by simp⟩
      · rw [if_neg hf]
        exact flatL_total l left (by omega) h2
theorem rdR_at {l : List S26} {i : Nat} (h : i < l.length) : rd_T26 l (i : Int) = l[i] := by
  unfold rd_T26
  simp [List.getD_eq_getElem?_getD, List.getElem?_eq_getElem h]
end Go.Proofs.Ytgljfjjainlhgaa.PPfxFlat
