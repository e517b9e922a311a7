/- Contracts of functions over the abstract machine. No conditions: lemmas alone. -/
import Derived.Test.YtbjipdmbdabniaaAttrBackLibD
import Derived.Test.YtbjipdmbdabniaaAttrBackPt
namespace Go.Proofs.Ytbjipdmbdabniaa.Ax
open Go Go.RowKit
set_option linter.unusedVariables false
set_option linter.unusedSimpArgs false
set_option maxRecDepth 100000
set_option maxHeartbeats 20000000
/-! what is put is bytes, and not many -/
theorem foursL_bytes : ∀ {l : List Int}, (∀ x ∈ l, u32 x) → ∀ y ∈ foursL l, 0 ≤ y ∧ y ≤ 255
  | [], _, y, hy => by simp [foursL] at hy
  | x :: l, h, y, hy => by
    rw [foursL_cons] at hy
    have hx := h x (by simp)
    have h1 := hx.1
    have h2 := hx.2
    rcases List.mem_append.1 hy with hy | hy
    · simp at hy
      rcases hy with rfl | rfl | rfl | rfl <;> omega
    · exact foursL_bytes (fun x hx => h x (List.mem_cons_of_mem _ hx)) y hy
theorem oneP_bytes {fl k : Int} {v : List Int} (h0 : 0 ≤ fl ∧ fl ≤ 192) (hk : 0 ≤ k ∧ k ≤ 255) (hl : v.length ≤ 65535) (hv : ∀ x ∈ v, 0 ≤ x ∧ x ≤ 255) : ∀ x ∈ oneP fl k v, 0 ≤ x ∧ x ≤ 255 := by
  intro x hx
  unfold oneP at hx
  split at hx
  · simp only [List.mem_cons] at hx
    rcases hx with rfl | rfl | rfl | rfl | hx
    · omega
    · omega
    · omega
    · omega
    · exact hv x hx
  · simp only [List.mem_cons] at hx
    rcases hx with rfl | rfl | rfl | hx
    · omega
    · omega
    · omega
    · exact hv x hx
theorem oneP_len' (fl k : Int) (v : List Int) : (oneP fl k v).length ≤ 4 + v.length := by unfold oneP; split <;> simp <;> omega
theorem pathB_bytes {p : List Int} (hl : p.length ≤ 255) (h : ∀ x ∈ p, u32 x) : ∀ x ∈ pathB p, 0 ≤ x ∧ x ≤ 255 := by
  intro x hx
  unfold pathB at hx
  split at hx
  · cases hx
  · simp only [List.mem_cons] at hx
    rcases hx with rfl | rfl | hx
    · omega
    · omega
    · exact foursL_bytes h x hx
theorem putP_bytes {a : AV} (hr : rightP a) (hg : goodAV a) : (∀ x ∈ putP a, 0 ≤ x ∧ x ≤ 255) ∧ (putP a).length ≤ 3000 := by
  obtain ⟨r1, r2, r3, r4, r5, r6, r7, r8, r9, r10⟩ := hr
  obtain ⟨g1, g2, g3, g4, g5⟩ := hg
  have b1 := pathB_length a.path
  have one1 : ∀ z, u32 z → ∀ x ∈ [z], u32 x := fun z hz x hx => by rcases List.mem_singleton.1 hx with rfl; exact hz
  constructor
  · intro x hx
    unfold putP at hx
    rcases List.mem_append.1 hx with hx | hx
    · rcases List.mem_append.1 hx with hx | hx
      · rcases List.mem_append.1 hx with hx | hx
        · rcases List.mem_append.1 hx with hx | hx
          · rcases List.mem_append.1 hx with hx | hx
            · exact oneP_bytes (by omega) (by omega) (by simp) (fun y hy => by rcases List.mem_singleton.1 hy with rfl; omega) x hx
            · exact oneP_bytes (by omega) (by omega) (by omega) (pathB_bytes r2 g1) x hx
          · exact oneP_bytes (by omega) (by omega) (by rw [foursL_length]; simp) (foursL_bytes (one1 _ g2)) x hx
        · split at hx
          · exact oneP_bytes (by omega) (by omega) (by rw [foursL_length]; simp) (foursL_bytes (one1 _ g3)) x hx
          · cases hx
      · split at hx
        · exact oneP_bytes (by omega) (by omega) (by rw [foursL_length]; simp) (foursL_bytes (one1 _ g4)) x hx
        · cases hx
    · split at hx
      · cases hx
      · exact oneP_bytes (by omega) (by omega) (by rw [foursL_length]; omega) (foursL_bytes g5) x hx
  · have n1 := oneP_len' 64 1 [a.origin]
    have n2 := oneP_len' 64 2 (pathB a.path)
    have n3 := oneP_len' 64 3 (foursL [a.hop])
    have n4 := oneP_len' 128 4 (foursL [a.med])
    have n5 := oneP_len' 64 5 (foursL [a.pref])
    have n8 := oneP_len' 192 8 (foursL a.comms)
    rw [foursL_length] at n3 n4 n5 n8
    simp only [List.length_cons, List.length_nil] at n1 n3 n4 n5
    have n4' : (if a.hasMed = true then oneP 128 4 (foursL [a.med]) else []).length ≤ 8 := by split; omega; simp
    have n5' : (if a.hasPref = true then oneP 64 5 (foursL [a.pref]) else []).length ≤ 8 := by split; omega; simp
    have n8' : (if a.comms = [] then [] else oneP 192 8 (foursL a.comms)).length ≤ 4 + 4 * a.comms.length := by split; simp; omega
    unfold putP
    simp only [List.length_append]
    omega

end Go.Proofs.Ytbjipdmbdabniaa.Ax
