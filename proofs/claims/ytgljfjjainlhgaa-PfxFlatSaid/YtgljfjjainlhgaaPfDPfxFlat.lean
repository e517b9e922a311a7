/- The document's Flat is pfx's: plain lemmas. No conditions. -/
import Derived.Test.YtgljfjjainlhgaaPfTPfxFlat
namespace Go.Proofs.Ytgljfjjainlhgaa.PPfxFlat
open Go.RowKit Go.Proofs.YtgljfjjainlhgaaW.PrintWords Go.Proofs.YtgljfjjainlhgaaW.PrintLast Go.Proofs.YtgljfjjainlhgaaW.PrintMore
set_option linter.unusedVariables false
set_option linter.unusedSimpArgs false
theorem flat_l1 (l : List S41) (n : Nat) (hn : n < l.length) (hl : l.length < 1000000) (out : List S26) (ho : out.length ≤ 1024) (left : List S26) (r : Option (List S26 × Int)) (d : Nat) : ∀ (k i : Nat) (acc : List S26), i + d = out.length → d + 3000 < k → flatM 100 l[n] (out.drop i) acc = some left →
    (if ((if l[n].f0 = true then left else left ++ [l[n].f1]).length : Int) > 1024 then some ([], 6) else dragomanref04_Flat.l0 (k - d - 1) l (if l[n].f0 = true then left else left ++ [l[n].f1]) (wrap64 ((n : Int) - 1))) = r → left.length < 900000 → dragomanref04_Flat.l1 k l n acc out out.length i = r := by
  induction d with
  | zero =>
    intro k i acc hi hk hm hr hll
    obtain ⟨k, rfl⟩ : ∃ j, k = j + 1 := ⟨k - 1, by omega⟩
    rw [List.drop_eq_nil_of_le (by omega)] at hm
    obtain rfl : acc = left := Option.some.inj hm
    simp only [dragomanref04_Flat.l1]
    rw [if_neg (by omega), if_pos (by omega), if_pos (by omega), rdE_at hn]
    rw [show k + 1 - 0 - 1 = k by omega] at hr
    by_cases hd : l[n].f0 = true
    · rw [if_pos hd] at hr ⊢
      exact hr
    · rw [if_neg hd] at hr ⊢
      rw [if_pos (by omega)]
      exact hr
  | succ d ih =>
    intro k i acc hi hk hm hr hll
    obtain ⟨k, rfl⟩ : ∃ j, k = j + 1 := ⟨k - 1, by omega⟩
    have hlt : i < out.length := by omega
    rw [List.drop_eq_getElem_cons hlt] at hm
    unfold flatM at hm
    obtain ⟨m, hm1, hm2⟩ := Option.bind_eq_some_iff.mp hm
    by_cases hacc : acc.length + m.length < 1000000
    · rw [if_pos hacc] at hm2
      simp only [dragomanref04_Flat.l1]
      rw [if_pos (by omega), if_pos (by omega), if_pos (by omega), if_pos (by omega), if_pos (by omega), rdE_at hn, rdR_at hlt, refMinus_eq k (by omega) out[i] l[n].f1 m (minus_more (by omega) hm1)]
      simp only [Option.bind_some]
      rw [if_pos (by omega), show wrap64 ((i : Int) + 1) = ((i + 1 : Nat) : Int) by rw [w64_id (by omega) (by omega)]; omega]
      exact ih k (i + 1) (acc ++ m) (by omega) (by omega) hm2 (by rw [show k - d - 1 = k + 1 - (d + 1) - 1 by omega]; exact hr) hll
    · rw [if_neg hacc] at hm2
      cases hm2
set_option maxRecDepth 100000 in
theorem flat_l0 (l : List S41) (hl : l.length < 1000) (r : List S26 × Int) (n : Nat) : ∀ (k : Nat) (out : List S26), n ≤ l.length → n * 2000 + 4000 < k → out.length ≤ 1024 → (∀ x ∈ out, RightR x) → flatL 100 (l.take n).reverse out = some r → dragomanref04_Flat.l0 k l out ((n : Int) - 1) = some r := by
  induction n with
  | zero =>
    intro k out hn hk ho hro h
    obtain ⟨k, rfl⟩ : ∃ j, k = j + 1 := ⟨k - 1, by omega⟩
    obtain rfl : (out, 0) = r := by simpa [flatL] using h
    simp only [dragomanref04_Flat.l0]
    rw [if_neg (by omega)]
  | succ n ih =>
    intro k out hn hk ho hro h
    obtain ⟨k, rfl⟩ : ∃ j, k = j + 1 := ⟨k - 1, by omega⟩
    have hlt : n < l.length := by omega
    have s1 : n ≤ l.length := by omega
    have s2 : n * 2000 + 4000 < k := by clear ih h; omega
    rw [List.take_succ_eq_append_getElem hlt, List.reverse_append, List.reverse_singleton, List.singleton_append] at h
    unfold flatL at h
    rw [show (((n + 1 : Nat) : Int) - 1) = (n : Int) by omega]
    simp only [dragomanref04_Flat.l0]
    rw [if_pos (by omega), if_pos (by omega), if_pos (by omega), rdE_at hlt, refR_eq _ (by omega)]
    obtain ⟨b, hb⟩ := right_total l[n].f1
    rw [hb] at h ⊢
    simp only [Option.bind_some] at h ⊢
    have hw : wrap64 ((n : Int) - 1) = (n : Int) - 1 := w64_id (by omega) (by omega)
    cases b with
    | false =>
      rw [if_neg (by simp)] at h ⊢
      rw [hw]
      exact ih k out s1 s2 ho hro h
    | true =>
      rw [if_pos rfl] at h ⊢
      obtain ⟨left, h1, h2, h3⟩ := flatM_total 100 (by omega) l[n] hb out [] hro (by simp) (by simp; omega)
      simp only [List.length_nil] at h3
      unfold flatS at h
      rw [h1] at h
      simp only [Option.bind_some] at h
      have s3 : n * 2000 + 4000 < k - out.length - 1 := by clear ih h; omega
      refine flat_l1 l n hlt (by omega) out ho left (some r) out.length k 0 [] (by omega) (by omega) (by rw [List.drop_zero]; exact h1) ?_ (by omega)
      by_cases hf : ((if l[n].f0 = true then left else left ++ [l[n].f1]).length : Int) > 1024
      · rw [if_pos hf] at h ⊢
        exact h
      · rw [if_neg hf] at h ⊢
        rw [hw]
        refine ih _ _ s1 s3 (by omega) ?_ h
        intro x hx
        by_cases hd : l[n].f0 = true
        · rw [if_pos hd] at hx
          exact h2 x hx
        · rw [if_neg hd] at hx
          rcases List.mem_append.1 hx with h' | h'
          · exact h2 x h'
          · rw [List.mem_singleton.1 h']
            exact hb
set_option maxRecDepth 100000 in
theorem flat_both (k : Nat) (l : List S41) (hl : l.length ≤ 24) (hk : 60000 < k) : ∃ r e, pfx_Flat.f k l = some (r, e) ∧ dragomanref04_Flat.f k l = some (r, e) ∧ (e = 0 ∨ r = [] ∧ e = 6) ∧ r.length ≤ 1024 ∧ (∀ x ∈ r, RightR x) := by
  obtain ⟨r, e, h, h1, h2, h3⟩ := flatL_total l.reverse [] (by simp) (by simp)
  refine ⟨r, e, ?_, ?_, h1, h2, h3⟩
  · unfold pfx_Flat.f
    rw [if_pos (by omega)]
    exact flatL_more (by omega) h
  · unfold dragomanref04_Flat.f
    rw [w64_id (by omega) (by omega)]
    exact flat_l0 l (by omega) (r, e) l.length k [] (by omega) (by omega) (by simp) (by simp) (by rw [List.take_length]; exact h)
end Go.Proofs.Ytgljfjjainlhgaa.PPfxFlat
