/- nlri.Read of two texts, one behind the other: plain lemmas. No conditions. -/
import Derived.Test.YtpcjinapcmkbcaaNlDNlriBack
namespace Go.Proofs.Ytpcjinapcmkbcaa.PNlriBack
open Go.RowKit Go.Proofs.YtpcjinapcmkbcaaW.PrintWords Go.Proofs.YtpcjinapcmkbcaaW.PrintLast Go.Proofs.YtpcjinapcmkbcaaW.PrintMore
set_option linter.unusedVariables false
set_option linter.unusedSimpArgs false
theorem nread_out (m : Nat) : ∀ (b : List Int) (out o l : List S34) (e : Int), nread m b o = some (l, e) → out.length + o.length + b.length < 1000000 → nread m b (out ++ o) = some (if e = 0 then out ++ l else l, e) := by
  induction m with
  | zero => intro b out o l e h; simp [nread] at h
  | succ m ih =>
    intro b out o l e h ho
    cases b with
    | nil =>
      obtain ⟨rfl, rfl⟩ : o = l ∧ 0 = e := by simpa [nread] using h
      simp [nread]
    | cons c t =>
      simp only [nread, List.length_cons] at h ho ⊢
      by_cases h32 : c > 32
      · rw [if_pos h32] at h ⊢
        obtain ⟨rfl, rfl⟩ : [] = l ∧ 5 = e := by simpa using h
        rfl
      · rw [if_neg h32] at h ⊢
        by_cases hs : (t.length : Int) < (c + 7) / 8
        · rw [if_pos hs] at h ⊢
          obtain ⟨rfl, rfl⟩ : [] = l ∧ 3 = e := by simpa using h
          rfl
        · rw [if_neg hs] at h ⊢
          rw [if_pos (by omega)] at h
          rw [if_pos (by rw [List.length_append]; omega)]
          obtain ⟨mm, hM, h⟩ := Option.bind_eq_some_iff.mp h
          rw [hM]
          simp only [Option.bind_some]
          rw [List.append_assoc]
          exact ih _ out _ l e h (by simp only [List.length_append, List.length_cons, List.length_nil, List.length_drop]; omega)
theorem nread_err (m : Nat) : ∀ (b : List Int) (out l : List S34) (e : Int), nread m b out = some (l, e) → e = 0 ∨ l = [] := by
  induction m with
  | zero => intro b out l e h; simp [nread] at h
  | succ m ih =>
    intro b out l e h
    cases b with
    | nil =>
      obtain ⟨rfl, rfl⟩ : out = l ∧ 0 = e := by simpa [nread] using h
      exact .inl rfl
    | cons c t =>
      simp only [nread] at h
      by_cases h32 : c > 32
      · rw [if_pos h32] at h
        obtain ⟨rfl, rfl⟩ : [] = l ∧ 5 = e := by simpa using h
        exact .inr rfl
      · rw [if_neg h32] at h
        by_cases hs : (t.length : Int) < (c + 7) / 8
        · rw [if_pos hs] at h
          obtain ⟨rfl, rfl⟩ : [] = l ∧ 3 = e := by simpa using h
          exact .inr rfl
        · rw [if_neg hs] at h
          by_cases ho : out.length < 1000000
          · rw [if_pos ho] at h
            obtain ⟨mm, hM, h⟩ := Option.bind_eq_some_iff.mp h
            exact ih _ _ l e h
          · rw [if_neg ho] at h
            cases h
theorem nread_more (m : Nat) : ∀ (b : List Int) (out : List S34) (r : List S34 × Int), nread m b out = some r → ∀ M, m ≤ M → nread M b out = some r := by
  induction m with
  | zero => intro b out r h; simp [nread] at h
  | succ m ih =>
    intro b out r h M hM
    obtain ⟨M, rfl⟩ : ∃ x, M = x + 1 := ⟨M - 1, by omega⟩
    cases b with
    | nil => exact h
    | cons c t =>
      simp only [nread] at h ⊢
      by_cases h32 : c > 32
      · rw [if_pos h32] at h ⊢
        exact h
      · rw [if_neg h32] at h ⊢
        by_cases hs : (t.length : Int) < (c + 7) / 8
        · rw [if_pos hs] at h ⊢
          exact h
        · rw [if_neg hs] at h ⊢
          by_cases ho : out.length < 1000000
          · rw [if_pos ho] at h ⊢
            obtain ⟨mm, hK, h⟩ := Option.bind_eq_some_iff.mp h
            rw [hK]
            exact ih _ _ r h M (by omega)
          · rw [if_neg ho] at h
            cases h
theorem nread_join (m : Nat) : ∀ (a b : List Int) (out l : List S34) (r : List S34 × Int) (M : Nat), nread m a out = some (l, 0) → nread M b l = some r → nread (M + m) (a ++ b) out = some r := by
  induction m with
  | zero => intro a b out l r M h; simp [nread] at h
  | succ m ih =>
    intro a b out l r M h hb
    cases a with
    | nil =>
      obtain rfl : out = l := by simpa [nread] using h
      exact nread_more M b out r hb _ (by omega)
    | cons c t =>
      rw [List.cons_append, ← Nat.add_assoc]
      simp only [nread] at h ⊢
      by_cases h32 : c > 32
      · rw [if_pos h32] at h
        simp at h
      · rw [if_neg h32] at h ⊢
        by_cases hs : (t.length : Int) < (c + 7) / 8
        · rw [if_pos hs] at h
          simp at h
        · rw [if_neg hs] at h
          rw [if_neg (by rw [List.length_append]; omega)]
          by_cases ho : out.length < 1000000
          · rw [if_pos ho] at h ⊢
            obtain ⟨mm, hK, h⟩ := Option.bind_eq_some_iff.mp h
            rw [List.take_append_of_le_length (by omega), hK, List.drop_append_of_le_length (by omega)]
            exact ih _ _ _ l r M h hb
          · rw [if_neg ho] at h
            cases h
theorem read_f (b : List Int) (hb : ∀ x ∈ b, 0 ≤ x ∧ x < 256) (hl : b.length ≤ 1000000) : nlri_Read.f b = nread (b.length + 1) b [] := by
  unfold nlri_Read.f
  rw [if_pos ⟨List.all_eq_true.2 (fun x hx => by have := hb x hx; simp [this.1, this.2]), by omega⟩]
theorem byte_bd {x : Int} (h : (Lit.int .u8 x).wf = true) : 0 ≤ x ∧ x < 256 := by
  simp only [Lit.wf, IntKind.min, IntKind.max, IntKind.signed, IntKind.bits, Bool.and_eq_true] at h
  simp at h
  omega
end Go.Proofs.Ytpcjinapcmkbcaa.PNlriBack
