/- Contracts of functions over the abstract machine. No conditions: lemmas alone. -/
import Derived.Test.YtbjipdmbdabniaaAttrBackLibD
import Derived.Test.YtbjipdmbdabniaaAttrBackAt6
namespace Go.Proofs.Ytbjipdmbdabniaa.Ax
open Go Go.RowKit
set_option linter.unusedVariables false
set_option linter.unusedSimpArgs false
set_option maxRecDepth 100000
set_option maxHeartbeats 20000000
/-! what reading does, attribute by attribute -/
instance (xs : List Int) : Decidable (cutP xs) := by unfold cutP; infer_instance
/-- What is wrong with an attribute; 0: nothing. -/
def stepE (fl k : Int) (v : List Int) : Int := if flagsP k = 0 then (if fl ≥ 128 then 0 else 2) else if fl / 64 * 64 ≠ flagsP k ∨ (fl / 32 % 2 = 1 ∧ flagsP k ≠ 192) then 4 else (takeP AV.zero k v).2
def stepA (a : AV) (k : Int) (v : List Int) : AV := if flagsP k = 0 then a else (takeP a k v).1
def valP (xs : List Int) : List Int := (xs.drop (headP xs)).take (sizeP xs)
def restP (xs : List Int) : List Int := xs.drop (headP xs + sizeP xs)
theorem takeP_err (a b : AV) (k : Int) (v : List Int) : (takeP a k v).2 = (takeP b k v).2 := by
  unfold takeP
  repeat' split
  all_goals rfl
theorem headP_pos (xs : List Int) : 3 ≤ headP xs ∧ headP xs ≤ 4 := by unfold headP; split <;> omega
theorem restP_lt {xs : List Int} (h : xs ≠ []) : (restP xs).length < xs.length := by
  have := List.length_pos_iff.2 h
  have := headP_pos xs
  unfold restP
  rw [List.length_drop]; omega
theorem readP_step (need : Bool) (f : Nat) (xs : List Int) (met : Int → Bool) (a : AV) (h : xs ≠ []) : readP need (f + 1) xs met a =
    if ¬ cutP xs ∨ met (xs.getD 1 0) = true then (AV.zero, 1) else if stepE (xs.getD 0 0) (xs.getD 1 0) (valP xs) = 0 then readP need f (restP xs) (metU met (xs.getD 1 0)) (stepA a (xs.getD 1 0) (valP xs)) else (AV.zero, stepE (xs.getD 0 0) (xs.getD 1 0) (valP xs)) := by
  rw [readP, if_neg h]
  unfold cutP
  by_cases hc : ¬ (headP xs ≤ xs.length ∧ headP xs + sizeP xs ≤ xs.length) ∨ met (xs.getD 1 0) = true
  · rw [if_pos hc, if_pos hc]
  · rw [if_neg hc, if_neg hc]
    unfold stepE stepA restP valP
    by_cases h0 : flagsP (xs.getD 1 0) = 0
    · simp only [h0, if_true]
      by_cases h1 : xs.getD 0 0 ≥ 128
      · simp only [h1, if_true]
      · simp only [h1, if_false]; rfl
    · simp only [h0, if_false]
      by_cases h1 : xs.getD 0 0 / 64 * 64 ≠ flagsP (xs.getD 1 0) ∨ (xs.getD 0 0 / 32 % 2 = 1 ∧ flagsP (xs.getD 1 0) ≠ 192)
      · rw [if_pos h1, if_pos h1]; rfl
      · rw [if_neg h1, if_neg h1, takeP_err a AV.zero]
/-- Reading goes well: these are the types met. -/
inductive Rd : List Int → (Int → Bool) → AV → List Int → AV → Prop
  | nil (met : Int → Bool) (a : AV) : Rd [] met a [] a
  | cons (xs : List Int) (met : Int → Bool) (a : AV) (ks : List Int) (a' : AV) (h : xs ≠ []) (hc : cutP xs) (hm : met (xs.getD 1 0) = false) (he : stepE (xs.getD 0 0) (xs.getD 1 0) (valP xs) = 0)
      (t : Rd (restP xs) (metU met (xs.getD 1 0)) (stepA a (xs.getD 1 0) (valP xs)) ks a') : Rd xs met a (xs.getD 1 0 :: ks) a'
theorem rd_of : ∀ {f : Nat} {xs : List Int} {met : Int → Bool} {a : AV} {need : Bool}, xs.length < f → (readP need f xs met a).2 = 0 → ∃ ks, Rd xs met a ks (readP need f xs met a).1 ∧ (need = true → ∀ k, k = 1 ∨ k = 2 ∨ k = 3 → met k = true ∨ k ∈ ks)
  | 0, _, _, _, _, h, _ => absurd h (Nat.not_lt_zero _)
  | f + 1, xs, met, a, need, h, h0 => by
    by_cases hx : xs = []
    · subst hx
      rw [readP_nil] at h0 ⊢
      by_cases hn : (need && !(met 1 && met 2 && met 3)) = true
      · rw [if_pos hn] at h0; exact absurd h0 (by decide)
      · rw [if_neg hn]
        refine ⟨[], .nil _ _, ?_⟩
        rintro rfl k hk
        simp at hn
        rcases hk with rfl | rfl | rfl
        · exact .inl hn.1.1
        · exact .inl hn.1.2
        · exact .inl hn.2
    · have hs := readP_step need f xs met a hx
      rw [hs] at h0 ⊢
      by_cases hc : ¬ cutP xs ∨ met (xs.getD 1 0) = true
      · rw [if_pos hc] at h0; exact absurd h0 (by decide)
      · rw [if_neg hc] at h0 ⊢
        by_cases he : stepE (xs.getD 0 0) (xs.getD 1 0) (valP xs) = 0
        · rw [if_pos he] at h0 ⊢
          have hl := restP_lt hx
          obtain ⟨ks, h1, h2⟩ := rd_of (by omega) h0
          refine ⟨_, .cons xs met a ks _ hx (by by_cases h : cutP xs; exact h; exact absurd (.inl h) hc) (by cases hm : met (xs.getD 1 0); rfl; exact absurd (.inr hm) hc) he h1, fun hn k hk => ?_⟩
          rcases h2 hn k hk with h | h
          · unfold metU at h
            by_cases e : k = xs.getD 1 0
            · exact .inr (by rw [e]; simp)
            · rw [if_neg e] at h; exact .inl h
          · exact .inr (List.mem_cons_of_mem _ h)
        · rw [if_neg he] at h0; exact absurd h0 he
def metA (met : Int → Bool) (ks : List Int) : Int → Bool := fun i => if i ∈ ks then true else met i
theorem metA_cons (met : Int → Bool) (k : Int) (ks : List Int) : metA (metU met k) ks = metA met (k :: ks) := by
  funext i
  unfold metA metU
  by_cases h : i ∈ ks
  · rw [if_pos h, if_pos (List.mem_cons_of_mem _ h)]
  · by_cases e : i = k
    · rw [if_neg h, if_pos e, if_pos (by rw [e]; simp)]
    · rw [if_neg h, if_neg e, if_neg (by simp [e, h])]
theorem getD_app {xs ys : List Int} {i : Nat} (h : i < xs.length) : (xs ++ ys).getD i 0 = xs.getD i 0 := by
  rw [List.getD_eq_getElem?_getD, List.getD_eq_getElem?_getD, List.getElem?_append_left h]
/-- What follows does not turn the first attribute. -/
theorem cut_app {xs : List Int} (ys : List Int) (h : cutP xs) : headP (xs ++ ys) = headP xs ∧ sizeP (xs ++ ys) = sizeP xs ∧ cutP (xs ++ ys) ∧ (xs ++ ys).getD 0 0 = xs.getD 0 0 ∧ (xs ++ ys).getD 1 0 = xs.getD 1 0 ∧ valP (xs ++ ys) = valP xs ∧ restP (xs ++ ys) = restP xs ++ ys := by
  have hp := headP_pos xs
  obtain ⟨h1, h2⟩ := h
  have g0 : (xs ++ ys).getD 0 0 = xs.getD 0 0 := getD_app (by omega)
  have e1 : headP (xs ++ ys) = headP xs := by unfold headP; rw [g0]
  have e2 : sizeP (xs ++ ys) = sizeP xs := by
    unfold headP at h1
    unfold sizeP
    rw [g0, getD_app (i := 2) (by omega)]
    split
    · rename_i h16
      rw [if_pos h16] at h1
      rw [getD_app (i := 3) (by omega)]
    · rfl
  refine ⟨e1, e2, ⟨by rw [e1, List.length_append]; omega, by rw [e1, e2, List.length_append]; omega⟩, g0, getD_app (by omega), ?_, ?_⟩
  · unfold valP
    rw [e1, e2, List.drop_append_of_le_length h1, List.take_append_of_le_length (by rw [List.length_drop]; omega)]
  · unfold restP
    rw [e1, e2, List.drop_append_of_le_length h2]
theorem Rd.app {xs : List Int} {met : Int → Bool} {a a' : AV} {ks : List Int} (h : Rd xs met a ks a') (need : Bool) (ys : List Int) : ∀ {F : Nat}, (xs ++ ys).length < F → readP need F (xs ++ ys) met a = readP need (ys.length + 1) ys (metA met ks) a' := by
  induction h with
  | nil met a =>
    intro F hF
    have : metA met [] = met := by funext i; simp [metA]
    rw [this, List.nil_append]
    exact readP_fuel (by simpa using hF) (by omega)
  | cons xs met a ks a' hx hc hm he t ih =>
    intro F hF
    obtain ⟨f, rfl⟩ : ∃ f, F = f + 1 := ⟨F - 1, by omega⟩
    obtain ⟨c1, c2, c3, c4, c5, c6, c7⟩ := cut_app ys hc
    rw [readP_step need f (xs ++ ys) met a (by simp [hx]), c4, c5, c6, c7, if_neg (by rintro (h | h); exact h c3; rw [hm] at h; cases h), if_pos he]
    rw [ih (by have := restP_lt hx; simp at hF ⊢; omega), metA_cons]
theorem Rd.end {xs : List Int} {met : Int → Bool} {a a' : AV} {ks : List Int} (h : Rd xs met a ks a') (need : Bool) {F : Nat} (hF : xs.length < F) : readP need F xs met a = if need && !(metA met ks 1 && metA met ks 2 && metA met ks 3) then (AV.zero, 3) else (a', 0) := by
  have := h.app need [] (F := F) (by simpa using hF)
  rw [List.append_nil] at this
  rw [this, readP_nil]
theorem Rd.free {xs : List Int} {met : Int → Bool} {a a' : AV} {ks : List Int} (h : Rd xs met a ks a') : ∀ k ∈ ks, met k = false := by
  induction h with
  | nil met a => intro k hk; cases hk
  | cons xs met a ks a' hx hc hm he t ih =>
    intro k hk
    rcases List.mem_cons.1 hk with rfl | hk
    · exact hm
    · have := ih k hk
      unfold metU at this
      by_cases e : k = xs.getD 1 0
      · rw [if_pos e] at this; cases this
      · rw [if_neg e] at this; exact this
theorem Rd.once {xs : List Int} {met : Int → Bool} {a a' : AV} {ks : List Int} {k : Int} (h : Rd xs (metU met k) a ks a') : k ∉ ks := fun hk => by
  have := h.free k hk
  simp [metU] at this
/-- A's, but of these types B's. -/
def merge (A B : AV) (ks : List Int) : AV where
  origin := if (1 : Int) ∈ ks then B.origin else A.origin
  path := if (2 : Int) ∈ ks then B.path else A.path
  hop := if (3 : Int) ∈ ks then B.hop else A.hop
  med := if (4 : Int) ∈ ks then B.med else A.med
  pref := if (5 : Int) ∈ ks then B.pref else A.pref
  hasMed := if (4 : Int) ∈ ks then B.hasMed else A.hasMed
  hasPref := if (5 : Int) ∈ ks then B.hasPref else A.hasPref
  comms := if (8 : Int) ∈ ks then B.comms else A.comms
theorem merge_nil (A B : AV) : merge A B [] = A := by simp [merge]
theorem step_cases {fl k : Int} {v : List Int} (he : stepE fl k v = 0) : (flagsP k = 0 ∧ k ≠ 1 ∧ k ≠ 2 ∧ k ≠ 3 ∧ k ≠ 4 ∧ k ≠ 5 ∧ k ≠ 8) ∨ (flagsP k ≠ 0 ∧ (takeP AV.zero k v).2 = 0) := by
  unfold stepE at he
  by_cases h0 : flagsP k = 0
  · refine .inl ⟨h0, ?_⟩
    unfold flagsP at h0
    refine ⟨?_, ?_, ?_, ?_, ?_, ?_⟩ <;> (rintro rfl; simp at h0)
  · rw [if_neg h0] at he
    split at he
    · exact absurd he (by decide)
    · exact .inr ⟨h0, he⟩
/-- A step turns one type's part, and makes it of the value alone. -/
theorem step_merge {fl k : Int} {v : List Int} (he : stepE fl k v = 0) (A B C : AV) (ks : List Int) (hk : k ∉ ks) : merge (stepA A k v) (merge (stepA B k v) C ks) ks = merge A (merge (stepA B k v) C ks) (k :: ks) := by
  rcases step_cases he with ⟨h0, n1, n2, n3, n4, n5, n8⟩ | ⟨h0, h1⟩
  · unfold stepA
    rw [if_pos h0, if_pos h0]
    simp only [merge, List.mem_cons, Ne.symm n1, Ne.symm n2, Ne.symm n3, Ne.symm n4, Ne.symm n5, Ne.symm n8, false_or]
  · unfold stepA
    rw [if_neg h0, if_neg h0]
    have hkk : k = 1 ∨ k = 2 ∨ k = 3 ∨ k = 4 ∨ k = 5 ∨ k = 8 := by
      unfold flagsP at h0
      split at h0
      · omega
      · split at h0
        · omega
        · split at h0
          · omega
          · exact absurd rfl h0
    unfold takeP at h1 ⊢
    by_cases hl : lenP k v.length = false
    · rw [if_pos hl] at h1; exact absurd h1 (by decide)
    simp only [if_neg hl] at h1 ⊢
    rcases hkk with rfl | rfl | rfl | rfl | rfl | rfl
    · simp only [if_true] at h1 ⊢
      by_cases c : v.getD 0 0 > 2
      · rw [if_pos c] at h1; exact absurd h1 (by decide)
      · simp only [if_neg c]; simp [merge, hk]
    · simp only [if_true, show ¬ ((2 : Int) = 1) by decide, if_false] at h1 ⊢
      cases hp : pathP v with
      | none => rw [hp] at h1; exact absurd h1 (by decide)
      | some l => simp [merge, hk]
    · simp only [if_true, show ¬ ((3 : Int) = 1) by decide, show ¬ ((3 : Int) = 2) by decide, if_false] at h1 ⊢
      by_cases c : wordAt v 0 = 0 ∨ wordAt v 0 ≥ 3758096384
      · rw [if_pos c] at h1; exact absurd h1 (by decide)
      · simp only [if_neg c]; simp [merge, hk]
    · simp [merge, hk]
    · simp [merge, hk]
    · simp only [if_true, show ¬ ((8 : Int) = 1) by decide, show ¬ ((8 : Int) = 2) by decide, show ¬ ((8 : Int) = 3) by decide, show ¬ ((8 : Int) = 4) by decide, show ¬ ((8 : Int) = 5) by decide, if_false] at h1 ⊢
      by_cases c : (uniq (words v (v.length / 4))).length > 255
      · rw [if_pos c] at h1; exact absurd h1 (by decide)
      · simp only [if_neg c]; simp [merge, hk]
theorem Rd.else {xs : List Int} {met : Int → Bool} {a a' : AV} {ks : List Int} (h : Rd xs met a ks a') : ∀ (met2 : Int → Bool) (A : AV), (∀ k ∈ ks, met2 k = false) → Rd xs met2 A ks (merge A a' ks) := by
  induction h with
  | nil met a => intro met2 A _; rw [merge_nil]; exact .nil _ _
  | cons xs met a ks a' hx hc hm he t ih =>
    intro met2 A hf
    have hn := t.once
    have self : a' = merge (stepA a (xs.getD 1 0) (valP xs)) a' ks := by
      have := ih _ (stepA a (xs.getD 1 0) (valP xs)) t.free
      have key : ∀ {xs : List Int} {met : Int → Bool} {a a1 a2 : AV} {ks ks' : List Int}, Rd xs met a ks a1 → Rd xs met a ks' a2 → a1 = a2 := by
        intro xs met a a1 a2 ks ks' h1 h2
        have e1 := h1.end false (F := xs.length + 1) (by omega)
        have e2 := h2.end false (F := xs.length + 1) (by omega)
        rw [e1] at e2
        simpa using e2
      exact key t this
    refine .cons xs met2 A ks _ hx hc (hf _ (by simp)) he ?_
    have hfree := t.free
    have := ih (metU met2 (xs.getD 1 0)) (stepA A (xs.getD 1 0) (valP xs)) (fun k hk => by
      have h1 := hf k (List.mem_cons_of_mem _ hk)
      unfold metU
      rw [if_neg (by rintro rfl; exact hn hk)]; exact h1)
    have e := step_merge he A a a' ks hn
    rw [← self] at e
    rw [← e]
    exact this
theorem Rd.self {xs : List Int} {met : Int → Bool} {a a' : AV} {ks : List Int} (h : Rd xs met a ks a') : a' = merge a a' ks := by
  have h2 := h.else met a h.free
  have e1 := h.end false (F := xs.length + 1) (by omega)
  have e2 := h2.end false (F := xs.length + 1) (by omega)
  rw [e1] at e2
  simpa using e2
theorem Rd.some {xs : List Int} {met : Int → Bool} {a a' : AV} {ks : List Int} (h : Rd xs met a ks a') (hx : xs ≠ []) : ∃ k, k ∈ ks := by
  cases h with
  | nil => exact absurd rfl hx
  | cons => exact ⟨_, List.mem_cons_self⟩
/-- What reading yields. -/
def rdP (need : Bool) (xs : List Int) : AV × Int := readP need (xs.length + 1) xs (fun _ => false) AV.zero
/-- An Attrs as cells. -/
def avL (a : AV) (p c : Value) : List Value := [.int .i64 a.origin, p, .int .u32 a.hop, .int .u32 a.med, .int .u32 a.pref, .bool a.hasMed, .bool a.hasPref, c]

end Go.Proofs.Ytbjipdmbdabniaa.Ax
