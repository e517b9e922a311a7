/- A prefix is in one of Flat's ranges, and in one alone, just if the list takes it: the plain statement behind the row. No conditions. -/
import Derived.Test.YtgljfjjainlhgaaPfSPfxTakes
namespace Go.Proofs.Ytgljfjjainlhgaa.Pure
open Go.RowKit Go.Proofs.Ytgljfjjainlhgaa.PPfxTakes Go.Proofs.YtgljfjjainlhgaaW.PrintWords Go.Proofs.YtgljfjjainlhgaaW.PrintLast
theorem takes_l0 (p0 p1 : Int) (l : List S41) (r : List S26) (hl : r.length ≤ 1024) (hr : ∀ x ∈ r, RightR x) (d : Nat) : ∀ (k i n : Nat), i + d = r.length → d < k → (n + cnt p0 p1 (r.drop i) = if takes p0 p1 l = true then 1 else 0) → dragomanlaw04_PfxTakes.l0 k l n r r.length i p0 p1 = some true := by
  induction d with
  | zero =>
    intro k i n h hk hc
    obtain ⟨k, rfl⟩ : ∃ m, k = m + 1 := ⟨k - 1, by omega⟩
    simp only [dragomanlaw04_PfxTakes.l0]
    rw [List.drop_eq_nil_of_le (by omega)] at hc
    have e0 : cnt p0 p1 ([] : List S26) = 0 := rfl
    rw [e0, Nat.add_zero] at hc
    rw [if_neg (by omega), match_val]
    cases ht : takes p0 p1 l with
    | true =>
      rw [ht, if_pos rfl] at hc
      subst hc
      rfl
    | false =>
      rw [ht, if_neg (by simp)] at hc
      subst hc
      rfl
  | succ d ih =>
    intro k i n h hk hc
    obtain ⟨k, rfl⟩ : ∃ m, k = m + 1 := ⟨k - 1, by omega⟩
    have hlt : i < r.length := by omega
    have hn : n ≤ 1 := by
      have : (if takes p0 p1 l = true then 1 else 0) ≤ 1 := by split <;> omega
      omega
    rw [List.drop_eq_getElem_cons hlt, cnt_cons] at hc
    simp only [dragomanlaw04_PfxTakes.l0]
    rw [if_pos (by omega), if_pos (by omega), if_pos (by omega), rdR_at hlt, in_inB, show pfx_Right.f r[i].f0.f0 r[i].f0.f1 r[i].f1 r[i].f2 = some true from hr _ (List.getElem_mem hlt)]
    simp only [Option.bind_some, if_true]
    have hw : wrap64 ((i : Int) + 1) = ((i + 1 : Nat) : Int) := by rw [w64_id (by omega) (by omega)]; omega
    rw [hw]
    cases hI : inB p0 p1 r[i] with
    | true =>
      rw [hI, if_pos rfl] at hc
      rw [if_pos rfl, show wrap64 ((n : Int) + 1) = ((n + 1 : Nat) : Int) by rw [w64_id (by omega) (by omega)]; omega]
      exact ih k (i + 1) (n + 1) (by omega) (by omega) (by omega)
    | false =>
      rw [hI, if_neg (by simp)] at hc
      rw [if_neg (by simp)]
      exact ih k (i + 1) n (by omega) (by omega) (by omega)
theorem PfxTakes : dragomanlaw04_PfxTakes.Pure := by
  intro x0 x1 _ _
  refine ⟨5000, ?_⟩
  unfold dragomanlaw04_PfxTakes.f
  rw [alive_ok _ (by omega)]
  simp only [Option.bind_some, if_true]
  by_cases hbig : (x0.length : Int) > 24
  · rw [if_pos hbig]
  · rw [if_neg hbig]
    obtain ⟨r, e, h, h1, h2, h3⟩ := flatL_total x0.reverse [] (by simp) (by simp)
    have hf : pfx_Flat.f 5000 x0 = some (r, e) := by
      unfold pfx_Flat.f
      rw [if_pos (by omega)]
      exact flatL_more (by omega) h
    rw [hf]
    simp only [Option.bind_some]
    by_cases hz : e = 0
    · subst hz
      rw [if_pos rfl]
      have hc := flatL_cnt x1.f0 x1.f1 x0.reverse [] [] r (by simp) (by simp) rfl h
      rw [List.reverse_reverse, List.append_nil] at hc
      exact takes_l0 x1.f0 x1.f1 x0 r h2 h3 r.length 5000 0 0 (by omega) (by omega) (by rw [List.drop_zero, Nat.zero_add]; exact hc)
    · rw [if_neg hz]
      rcases h1 with h1 | ⟨rfl, rfl⟩
      · exact absurd h1 hz
      · rfl
end Go.Proofs.Ytgljfjjainlhgaa.Pure
