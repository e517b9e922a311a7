/- Contracts of functions over the abstract machine. No conditions: lemmas alone. -/
import Derived.Test.YtbjipdmbdabniaaAttrPutsLibD
import Derived.Test.YtbjipdmbdabniaaAttrPutsRd
import Derived.Test.YtbjipdmbdabniaaAttrPutsT1
namespace Go.Proofs.Ytbjipdmbdabniaa.Ax
open Go Go.RowKit
set_option linter.unusedVariables false
set_option linter.unusedSimpArgs false
set_option maxRecDepth 100000
set_option maxHeartbeats 20000000
/-! attributes in bytes -/
def oneP (fl k : Int) (v : List Int) : List Int := if v.length > 255 then (fl + 16) :: k :: ((v.length / 256 : Nat) : Int) :: ((v.length % 256 : Nat) : Int) :: v else fl :: k :: (v.length : Int) :: v
def pathB (p : List Int) : List Int := if p = [] then [] else 2 :: (p.length : Int) :: foursL p
def putP (a : AV) : List Int := oneP 64 1 [a.origin] ++ oneP 64 2 (pathB a.path) ++ oneP 64 3 (foursL [a.hop]) ++ (if a.hasMed = true then oneP 128 4 (foursL [a.med]) else []) ++ (if a.hasPref = true then oneP 64 5 (foursL [a.pref]) else []) ++ (if a.comms = [] then [] else oneP 192 8 (foursL a.comms))
def rightP (a : AV) : Prop := a.comms.Pairwise (· < ·) ∧ a.path.length ≤ 255 ∧ a.comms.length ≤ 255 ∧ 0 ∉ a.path ∧ 0 ≤ a.origin ∧ a.origin ≤ 2 ∧ a.hop ≠ 0 ∧ a.hop < 3758096384 ∧ (a.hasMed = false → a.med = 0) ∧ (a.hasPref = false → a.pref = 0)
instance (a : AV) : Decidable (rightP a) := by unfold rightP; infer_instance
def u32 (x : Int) : Prop := 0 ≤ x ∧ x ≤ 4294967295
def goodAV (a : AV) : Prop := (∀ x ∈ a.path, u32 x) ∧ u32 a.hop ∧ u32 a.med ∧ u32 a.pref ∧ ∀ x ∈ a.comms, u32 x
theorem foursL_cons (x : Int) (xs : List Int) : foursL (x :: xs) = [x / 16777216, x / 65536 % 256, x / 256 % 256, x % 256] ++ foursL xs := by simp [foursL]
theorem pathB_length (p : List Int) : (pathB p).length ≤ 2 + 4 * p.length := by
  unfold pathB; split
  · simp
  · simp [foursL_length]; omega
/-- What was read is right, as far as it was read. -/
def partP (met : Int → Bool) (a : AV) : Prop := a.comms.Pairwise (· < ·) ∧ a.path.length ≤ 255 ∧ a.comms.length ≤ 255 ∧ 0 ∉ a.path ∧ 0 ≤ a.origin ∧ a.origin ≤ 2 ∧ (met 3 = true → a.hop ≠ 0 ∧ a.hop < 3758096384) ∧ (a.hasMed = false → a.med = 0) ∧ (a.hasPref = false → a.pref = 0) ∧ goodAV a
theorem wordAt_u32 {xs : List Int} (hb : ∀ x ∈ xs, 0 ≤ x ∧ x ≤ 255) (i : Nat) : u32 (wordAt xs i) := by
  have h0 := getD_byte hb i
  have h1 := getD_byte hb (i + 1)
  have h2 := getD_byte hb (i + 2)
  have h3 := getD_byte hb (i + 3)
  unfold isByte at h0 h1 h2 h3
  unfold u32 wordAt
  omega
theorem words_u32 {xs : List Int} (hb : ∀ x ∈ xs, 0 ≤ x ∧ x ≤ 255) (n : Nat) : ∀ x ∈ words xs n, u32 x := by
  intro x hx
  unfold words at hx
  obtain ⟨j, _, rfl⟩ := List.mem_map.1 hx
  exact wordAt_u32 hb _
theorem segP_u32 : ∀ {f : Nat} {xs l : List Int}, (∀ x ∈ xs, 0 ≤ x ∧ x ≤ 255) → segP f xs = some l → ∀ x ∈ l, u32 x
  | 0, _, _, _, h => by cases h
  | f + 1, xs, l, hb, h => by
    unfold segP at h
    split at h
    · cases h; simp
    · split at h
      · cases h
      · obtain ⟨m, hm, rfl⟩ := Option.map_eq_some_iff.1 h
        intro x hx
        rcases List.mem_append.1 hx with hx | hx
        · exact words_u32 (fun x hx => hb x (List.mem_of_mem_drop hx)) _ x hx
        · exact segP_u32 (fun x hx => hb x (List.mem_of_mem_drop hx)) hm x hx
theorem part_step {fl k : Int} {v : List Int} {met : Int → Bool} {a : AV} (hb : ∀ x ∈ v, 0 ≤ x ∧ x ≤ 255) (he : stepE fl k v = 0) (h : partP met a) : partP (metU met k) (stepA a k v) := by
  obtain ⟨r1, r2, r3, r4, r5, r6, r7, r9, r10, g1, g2, g3, g4, g5⟩ := h
  have hm : ∀ b : AV, b.hop = a.hop → k ≠ 3 → (metU met k 3 = true → b.hop ≠ 0 ∧ b.hop < 3758096384) := by
    intro b hb hk h3
    rw [hb]
    unfold metU at h3
    rw [if_neg (Ne.symm hk)] at h3
    exact r7 h3
  rcases step_cases he with ⟨h0, n1, n2, n3, n4, n5, n8⟩ | ⟨h0, h1⟩
  · unfold stepA
    rw [if_pos h0]
    exact ⟨r1, r2, r3, r4, r5, r6, hm a rfl n3, r9, r10, g1, g2, g3, g4, g5⟩
  · unfold stepA
    rw [if_neg h0]
    rw [takeP_err AV.zero a] at h1
    unfold takeP at h1 ⊢
    by_cases hl : lenP k v.length = false
    · rw [if_pos hl] at h1; simp at h1
    simp only [if_neg hl] at h1 ⊢
    by_cases k1 : k = 1
    · subst k1
      simp only [if_true] at h1 ⊢
      by_cases c : v.getD 0 0 > 2
      · rw [if_pos c] at h1; simp at h1
      · rw [if_neg c]
        have := getD_byte hb 0
        exact ⟨r1, r2, r3, r4, this.1, by simp only; omega, hm _ rfl (by decide), r9, r10, g1, g2, g3, g4, g5⟩
    simp only [if_neg k1] at h1 ⊢
    by_cases k2 : k = 2
    · subst k2
      simp only [if_true] at h1 ⊢
      cases hp : pathP v with
      | none => rw [hp] at h1; simp at h1
      | some l =>
        unfold pathP at hp
        obtain ⟨m, hm1, hm2⟩ := Option.bind_eq_some_iff.1 hp
        split at hm2
        · cases hm2
          rename_i hc
          exact ⟨r1, hc.1, r3, hc.2, r5, r6, hm _ rfl (by decide), r9, r10, segP_u32 hb hm1, g2, g3, g4, g5⟩
        · cases hm2
    simp only [if_neg k2] at h1 ⊢
    by_cases k3 : k = 3
    · subst k3
      simp only [if_true] at h1 ⊢
      by_cases c : wordAt v 0 = 0 ∨ wordAt v 0 ≥ 3758096384
      · rw [if_pos c] at h1; simp at h1
      · rw [if_neg c]
        exact ⟨r1, r2, r3, r4, r5, r6, fun _ => ⟨fun e => c (.inl e), by simp only; omega⟩, r9, r10, g1, wordAt_u32 hb 0, g3, g4, g5⟩
    simp only [if_neg k3] at h1 ⊢
    by_cases k4 : k = 4
    · subst k4
      simp only [if_true]
      exact ⟨r1, r2, r3, r4, r5, r6, hm _ rfl (by decide), (fun h => by cases h), r10, g1, g2, wordAt_u32 hb 0, g4, g5⟩
    simp only [if_neg k4] at h1 ⊢
    by_cases k5 : k = 5
    · subst k5
      simp only [if_true]
      exact ⟨r1, r2, r3, r4, r5, r6, hm _ rfl (by decide), r9, (fun h => by cases h), g1, g2, g3, wordAt_u32 hb 0, g5⟩
    simp only [if_neg k5] at h1 ⊢
    by_cases k8 : k = 8
    · subst k8
      simp only [if_true] at h1 ⊢
      by_cases c : (uniq (words v (v.length / 4))).length > 255
      · rw [if_pos c] at h1; simp at h1
      · rw [if_neg c]
        exact ⟨uniq_rise _, r2, by simp only; omega, r4, r5, r6, hm _ rfl (by decide), r9, r10, g1, g2, g3, g4, fun x hx => words_u32 hb _ x (uniq_mem.1 hx)⟩
    simp only [if_neg k8]
    exact ⟨r1, r2, r3, r4, r5, r6, hm _ rfl k3, r9, r10, g1, g2, g3, g4, g5⟩
theorem Rd.part {xs : List Int} {met : Int → Bool} {a a' : AV} {ks : List Int} (h : Rd xs met a ks a') (hb : ∀ x ∈ xs, 0 ≤ x ∧ x ≤ 255) (hp : partP met a) : partP (metA met ks) a' := by
  induction h with
  | nil met a => have : metA met [] = met := by funext i; simp [metA]
                 rw [this]; exact hp
  | cons xs met a ks a' hx hc hm he t ih =>
    rw [← metA_cons]
    exact ih (fun x hx => hb x (List.mem_of_mem_drop hx)) (part_step (fun x hx => hb x (List.mem_of_mem_drop (List.mem_of_mem_take hx))) he hp)
end Go.Proofs.Ytbjipdmbdabniaa.Ax
