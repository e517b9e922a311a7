/- Contracts of functions over the abstract machine. No conditions: lemmas alone. -/
import Derived.Test.YtbdejnnbpdgjlaaPeerXLibD
import Derived.Test.YtbdejnnbpdgjlaaPeerXP10
import Derived.Test.YtbdejnnbpdgjlaaPeerXP0
namespace Go.Proofs.Ytbdejnnbpdgjlaa.Ax
open Go Go.RowKit
set_option linter.unusedVariables false
set_option linter.unusedSimpArgs false
set_option maxRecDepth 100000
set_option maxHeartbeats 20000000
instance (xs : List Int) : Decidable (cutP xs) := by unfold cutP; infer_instance
def stepE (fl k : Int) (v : List Int) : Int := if flagsP k = 0 then (if fl ≥ 128 then 0 else 2) else if fl / 64 * 64 ≠ flagsP k ∨ (fl / 32 % 2 = 1 ∧ flagsP k ≠ 192) then 4 else (takeP AV.zero k v).2
def stepA (a : AV) (k : Int) (v : List Int) : AV := if flagsP k = 0 then a else (takeP a k v).1
def valP (xs : List Int) : List Int := (xs.drop (headP xs)).take (sizeP xs)
def restP (xs : List Int) : List Int := xs.drop (headP xs + sizeP xs)
theorem takeP_err (a b : AV) (k : Int) (v : List Int) : (takeP a k v).2 = (takeP b k v).2 := by
 unfold takeP
 repeat' split
 all_goals rfl
theorem headP_pos (xs : List Int) : 3 ≤ headP xs ∧ headP xs ≤ 4 := by unfold headP; split <;> omega
theorem restP_lt {xs : List Int} (h : xs ≠ []) : (restP xs).length < xs.length := by
 have := List.length_pos_iff.2 h
 have := headP_pos xs
 unfold restP
 rw [List.length_drop]; omega
theorem readP_step (need : Bool) (f : Nat) (xs : List Int) (met : Int → Bool) (a : AV) (h : xs ≠ []) : readP need (f + 1) xs met a =
  if ¬ cutP xs ∨ met (xs.getD 1 0) = true then (AV.zero, 1) else if stepE (xs.getD 0 0) (xs.getD 1 0) (valP xs) = 0 then readP need f (restP xs) (metU met (xs.getD 1 0)) (stepA a (xs.getD 1 0) (valP xs)) else (AV.zero, stepE (xs.getD 0 0) (xs.getD 1 0) (valP xs)) := by
 rw [readP, if_neg h]
 unfold cutP
 by_cases hc : ¬ (headP xs ≤ xs.length ∧ headP xs + sizeP xs ≤ xs.length) ∨ met (xs.getD 1 0) = true
 ·rw [if_pos hc, if_pos hc]
 ·rw [if_neg hc, if_neg hc]
  unfold stepE stepA restP valP
  by_cases h0 : flagsP (xs.getD 1 0) = 0
  ·simp only [h0, if_true]
   by_cases h1 : xs.getD 0 0 ≥ 128
   ·simp only [h1, if_true]
   ·simp only [h1, if_false]; rfl
  ·simp only [h0, if_false]
   by_cases h1 : xs.getD 0 0 / 64 * 64 ≠ flagsP (xs.getD 1 0) ∨ (xs.getD 0 0 / 32 % 2 = 1 ∧ flagsP (xs.getD 1 0) ≠ 192)
   ·rw [if_pos h1, if_pos h1]; rfl
   ·rw [if_neg h1, if_neg h1, takeP_err a AV.zero]
inductive Rd : List Int → (Int → Bool) → AV → List Int → AV → Prop
 | nil (met : Int → Bool) (a : AV) : Rd [] met a [] a
 | cons (xs : List Int) (met : Int → Bool) (a : AV) (ks : List Int) (a' : AV) (h : xs ≠ []) (hc : cutP xs) (hm : met (xs.getD 1 0) = false) (he : stepE (xs.getD 0 0) (xs.getD 1 0) (valP xs) = 0)
   (t : Rd (restP xs) (metU met (xs.getD 1 0)) (stepA a (xs.getD 1 0) (valP xs)) ks a') : Rd xs met a (xs.getD 1 0 :: ks) a'
theorem rd_of : ∀ {f : Nat} {xs : List Int} {met : Int → Bool} {a : AV} {need : Bool}, xs.length < f → (readP need f xs met a).2 = 0 → ∃ ks, Rd xs met a ks (readP need f xs met a).1 ∧ (need = true → ∀ k, k = 1 ∨ k = 2 ∨ k = 3 → met k = true ∨ k ∈ ks)
 | 0, _, _, _, _, h, _ => absurd h (Nat.not_lt_zero _)
 | f + 1, xs, met, a, need, h, h0 => by
  by_cases hx : xs = []
  ·subst hx
   rw [readP_nil] at h0 ⊢
   by_cases hn : (need && !(met 1 && met 2 && met 3)) = true
   ·rw [if_pos hn] at h0; exact absurd h0 (by decide)
   ·rw [if_neg hn]
    refine ⟨[], .nil _ _, ?_⟩
    rintro rfl k hk
    simp at hn
    rcases hk with rfl | rfl | rfl
    ·exact .inl hn.1.1
    ·exact .inl hn.1.2
    ·exact .inl hn.2
  ·have hs := readP_step need f xs met a hx
   rw [hs] at h0 ⊢
   by_cases hc : ¬ cutP xs ∨ met (xs.getD 1 0) = true
   ·rw [if_pos hc] at h0; exact absurd h0 (by decide)
   ·rw [if_neg hc] at h0 ⊢
    by_cases he : stepE (xs.getD 0 0) (xs.getD 1 0) (valP xs) = 0
    ·rw [if_pos he] at h0 ⊢
     have hl := restP_lt hx
     obtain ⟨ks, h1, h2⟩ := rd_of (by omega) h0
     refine ⟨_, .cons xs met a ks _ hx (by by_cases h : cutP xs; exact h; exact absurd (.inl h) hc) (by cases hm : met (xs.getD 1 0); rfl; exact absurd (.inr hm) hc) he h1, fun hn k hk => ?_⟩
     rcases h2 hn k hk with h | h
     ·unfold metU at h
      by_cases e : k = xs.getD 1 0
      ·exact .inr (by rw [e]; simp)
      ·rw [if_neg e] at h; exact .inl h
     ·exact .inr (List.mem_cons_of_mem _ h)
    ·rw [if_neg he] at h0; exact absurd h0 he
def metA (met : Int → Bool) (ks : List Int) : Int → Bool := fun i => if i ∈ ks then true else met i
theorem metA_cons (met : Int → Bool) (k : Int) (ks : List Int) : metA (metU met k) ks = metA met (k :: ks) := by
 funext i
 unfold metA metU
 by_cases h : i ∈ ks
 ·rw [if_pos h, if_pos (List.mem_cons_of_mem _ h)]
 ·by_cases e : i = k
  ·rw [if_neg h, if_pos e, if_pos (by rw [e]; simp)]
  ·rw [if_neg h, if_neg e, if_neg (by simp [e, h])]
theorem getD_app {xs ys : List Int} {i : Nat} (h : i < xs.length) : (xs ++ ys).getD i 0 = xs.getD i 0 := by
 rw [List.getD_eq_getElem?_getD, List.getD_eq_getElem?_getD, List.getElem?_append_left h]
theorem cut_app {xs : List Int} (ys : List Int) (h : cutP xs) : headP (xs ++ ys) = headP xs ∧ sizeP (xs ++ ys) = sizeP xs ∧ cutP (xs ++ ys) ∧ (xs ++ ys).getD 0 0 = xs.getD 0 0 ∧ (xs ++ ys).getD 1 0 = xs.getD 1 0 ∧ valP (xs ++ ys) = valP xs ∧ restP (xs ++ ys) = restP xs ++ ys := by
 have hp := headP_pos xs
 obtain ⟨h1, h2⟩ := h
 have g0 : (xs ++ ys).getD 0 0 = xs.getD 0 0 := getD_app (by omega)
 have e1 : headP (xs ++ ys) = headP xs := by unfold headP; rw [g0]
 have e2 : sizeP (xs ++ ys) = sizeP xs := by
  unfold headP at h1
  unfold sizeP
  rw [g0, getD_app (i := 2) (by omega)]
  split
  ·rename_i h16
   rw [if_pos h16] at h1
   rw [getD_app (i := 3) (by omega)]
  ·rfl
 refine ⟨e1, e2, ⟨by rw [e1, List.length_append]; omega, by rw [e1, e2, List.length_append]; omega⟩, g0, getD_app (by omega), ?_, ?_⟩
 ·unfold valP
  rw [e1, e2, List.drop_append_of_le_length h1, List.take_append_of_le_length (by rw [List.length_drop]; omega)]
 ·unfold restP
  rw [e1, e2, List.drop_append_of_le_length h2]
theorem Rd.app {xs : List Int} {met : Int → Bool} {a a' : AV} {ks : List Int} (h : Rd xs met a ks a') (need : Bool) (ys : List Int) : ∀ {F : Nat}, (xs ++ ys).length < F → readP need F (xs ++ ys) met a = readP need (ys.length + 1) ys (metA met ks) a' := by
 induction h with
 | nil met a =>
  intro F hF
  have : metA met [] = met := by funext i; simp [metA]
  rw [this, List.nil_append]
  exact readP_fuel (by simpa using hF) (by omega)
 | cons xs met a ks a' hx hc hm he t ih =>
  intro F hF
  obtain ⟨f, rfl⟩ : ∃ f, F = f + 1 := ⟨F - 1, by omega⟩
  obtain ⟨c1, c2, c3, c4, c5, c6, c7⟩ := cut_app ys hc
  rw [readP_step need f (xs ++ ys) met a (by simp [hx]), c4, c5, c6, c7, if_neg (by rintro (h | h); exact h c3; rw [hm] at h; cases h), if_pos he]
  rw [ih (by have := restP_lt hx; simp at hF ⊢; omega), metA_cons]
theorem Rd.end {xs : List Int} {met : Int → Bool} {a a' : AV} {ks : List Int} (h : Rd xs met a ks a') (need : Bool) {F : Nat} (hF : xs.length < F) : readP need F xs met a = if need && !(metA met ks 1 && metA met ks 2 && metA met ks 3) then (AV.zero, 3) else (a', 0) := by
 have := h.app need [] (F := F) (by simpa using hF)
 rw [List.append_nil] at this
 rw [this, readP_nil]
theorem Rd.free {xs : List Int} {met : Int → Bool} {a a' : AV} {ks : List Int} (h : Rd xs met a ks a') : ∀ k ∈ ks, met k = false := by
 induction h with
 | nil met a => intro k hk; cases hk
 | cons xs met a ks a' hx hc hm he t ih =>
  intro k hk
  rcases List.mem_cons.1 hk with rfl | hk
  ·exact hm
  ·have := ih k hk
   unfold metU at this
   by_cases e : k = xs.getD 1 0
   ·rw [if_pos e] at this; cases this
   ·rw [if_neg e] at this; exact this
theorem Rd.once {xs : List Int} {met : Int → Bool} {a a' : AV} {ks : List Int} {k : Int} (h : Rd xs (metU met k) a ks a') : k ∉ ks := fun hk => by
 have := h.free k hk
 simp [metU] at this
def merge (A B : AV) (ks : List Int) : AV where
 origin := if (1 : Int) ∈ ks then B.origin else A.origin
 path := if (2 : Int) ∈ ks then B.path else A.path
 hop := if (3 : Int) ∈ ks then B.hop else A.hop
 med := if (4 : Int) ∈ ks then B.med else A.med
 pref := if (5 : Int) ∈ ks then B.pref else A.pref
 hasMed := if (4 : Int) ∈ ks then B.hasMed else A.hasMed
 hasPref := if (5 : Int) ∈ ks then B.hasPref else A.hasPref
 comms := if (8 : Int) ∈ ks then B.comms else A.comms
theorem merge_nil (A B : AV) : merge A B [] = A := by simp [merge]
theorem step_cases {fl k : Int} {v : List Int} (he : stepE fl k v = 0) : (flagsP k = 0 ∧ k ≠ 1 ∧ k ≠ 2 ∧ k ≠ 3 ∧ k ≠ 4 ∧ k ≠ 5 ∧ k ≠ 8) ∨ (flagsP k ≠ 0 ∧ (takeP AV.zero k v).2 = 0) := by
 unfold stepE at he
 by_cases h0 : flagsP k = 0
 ·refine .inl ⟨h0, ?_⟩
  unfold flagsP at h0
  refine ⟨?_, ?_, ?_, ?_, ?_, ?_⟩ <;> (rintro rfl; simp at h0)
 ·rw [if_neg h0] at he
  split at he
  ·exact absurd he (by decide)
  ·exact .inr ⟨h0, he⟩
theorem step_merge {fl k : Int} {v : List Int} (he : stepE fl k v = 0) (A B C : AV) (ks : List Int) (hk : k ∉ ks) : merge (stepA A k v) (merge (stepA B k v) C ks) ks = merge A (merge (stepA B k v) C ks) (k :: ks) := by
 rcases step_cases he with ⟨h0, n1, n2, n3, n4, n5, n8⟩ | ⟨h0, h1⟩
 ·unfold stepA
  rw [if_pos h0, if_pos h0]
  simp only [merge, List.mem_cons, Ne.symm n1, Ne.symm n2, Ne.symm n3, Ne.symm n4, Ne.symm n5, Ne.symm n8, false_or]
 ·unfold stepA
  rw [if_neg h0, if_neg h0]
  have hkk : k = 1 ∨ k = 2 ∨ k = 3 ∨ k = 4 ∨ k = 5 ∨ k = 8 := by
   unfold flagsP at h0
   split at h0
   ·omega
   ·split at h0
    ·omega
    ·split at h0
     ·omega
     ·exact absurd rfl h0
  unfold takeP at h1 ⊢
  by_cases hl : lenP k v.length = false
  ·rw [if_pos hl] at h1; exact absurd h1 (by decide)
  simp only [if_neg hl] at h1 ⊢
  rcases hkk with rfl | rfl | rfl | rfl | rfl | rfl
  ·simp only [if_true] at h1 ⊢
   by_cases c : v.getD 0 0 > 2
   ·rw [if_pos c] at h1; exact absurd h1 (by decide)
   ·simp only [if_neg c]; simp [merge, hk]
  ·simp only [if_true, show ¬ ((2 : Int) = 1) by decide, if_false] at h1 ⊢
   cases hp : pathP v with
   | none => rw [hp] at h1; exact absurd h1 (by decide)
   | some l => simp [merge, hk]
  ·simp only [if_true, show ¬ ((3 : Int) = 1) by decide, show ¬ ((3 : Int) = 2) by decide, if_false] at h1 ⊢
   by_cases c : wordAt v 0 = 0 ∨ wordAt v 0 ≥ 3758096384
   ·rw [if_pos c] at h1; exact absurd h1 (by decide)
   ·simp only [if_neg c]; simp [merge, hk]
  ·simp [merge, hk]
  ·simp [merge, hk]
  ·simp only [if_true, show ¬ ((8 : Int) = 1) by decide, show ¬ ((8 : Int) = 2) by decide, show ¬ ((8 : Int) = 3) by decide, show ¬ ((8 : Int) = 4) by decide, show ¬ ((8 : Int) = 5) by decide, if_false] at h1 ⊢
   by_cases c : (uniq (words v (v.length / 4))).length > 255
   ·rw [if_pos c] at h1; exact absurd h1 (by decide)
   ·simp only [if_neg c]; simp [merge, hk]
theorem Rd.else {xs : List Int} {met : Int → Bool} {a a' : AV} {ks : List Int} (h : Rd xs met a ks a') : ∀ (met2 : Int → Bool) (A : AV), (∀ k ∈ ks, met2 k = false) → Rd xs met2 A ks (merge A a' ks) := by
 induction h with
 | nil met a => intro met2 A _; rw [merge_nil]; exact .nil _ _
 | cons xs met a ks a' hx hc hm he t ih =>
  intro met2 A hf
  have hn := t.once
  have self : a' = merge (stepA a (xs.getD 1 0) (valP xs)) a' ks := by
   have := ih _ (stepA a (xs.getD 1 0) (valP xs)) t.free
   have key : ∀ {xs : List Int} {met : Int → Bool} {a a1 a2 : AV} {ks ks' : List Int}, Rd xs met a ks a1 → Rd xs met a ks' a2 → a1 = a2 := by
    intro xs met a a1 a2 ks ks' h1 h2
    have e1 := h1.end false (F := xs.length + 1) (by omega)
    have e2 := h2.end false (F := xs.length + 1) (by omega)
    rw [e1] at e2
    simpa using e2
   exact key t this
  refine .cons xs met2 A ks _ hx hc (hf _ (by simp)) he ?_
  have hfree := t.free
  have := ih (metU met2 (xs.getD 1 0)) (stepA A (xs.getD 1 0) (valP xs)) (fun k hk => by
   have h1 := hf k (List.mem_cons_of_mem _ hk)
   unfold metU
   rw [if_neg (by rintro rfl; exact hn hk)]; exact h1)
  have e := step_merge he A a a' ks hn
  rw [← self] at e
  rw [← e]
  exact this
theorem Rd.self {xs : List Int} {met : Int → Bool} {a a' : AV} {ks : List Int} (h : Rd xs met a ks a') : a' = merge a a' ks := by
 have h2 := h.else met a h.free
 have e1 := h.end false (F := xs.length + 1) (by omega)
 have e2 := h2.end false (F := xs.length + 1) (by omega)
 rw [e1] at e2
 simpa using e2
theorem Rd.some {xs : List Int} {met : Int → Bool} {a a' : AV} {ks : List Int} (h : Rd xs met a ks a') (hx : xs ≠ []) : ∃ k, k ∈ ks := by
 cases h with
 | nil => exact absurd rfl hx
 | cons => exact ⟨_, List.mem_cons_self⟩
def rdP (need : Bool) (xs : List Int) : AV × Int := readP need (xs.length + 1) xs (fun _ => false) AV.zero
def avL (a : AV) (p c : Value) : List Value := [.int .i64 a.origin, p, .int .u32 a.hop, .int .u32 a.med, .int .u32 a.pref, .bool a.hasMed, .bool a.hasPref, c]
end Go.Proofs.Ytbdejnnbpdgjlaa.Ax
namespace Go.Proofs.Ytbdejnnbpdgjlaa.Ax
open Go Go.RowKit
open Nat renaming reduceAdd → ν1, reduceMul → ν2, reduceLeDiff → ν3, reduceLT → ν4, reduceSub → ν5
open Int renaming reduceNe → ζ1, reduceEq → ζ2, reduceLE → ζ3, reduceLT → ζ4, reduceToNat → ζ5
set_option linter.unusedVariables false
set_option linter.unusedSimpArgs false
set_option maxRecDepth 100000
set_option maxHeartbeats 20000000
attribute [local irreducible] thenA blockA scopeA retA AL AW AD ADL AH clrK CallA apure aload bload appK ptrK fnK ares szOk planOk okOps
def foursL (xs : List Int) : List Int := xs.flatMap fun n => [n / 16777216, n / 65536 % 256, n / 256 % 256, n % 256]
theorem foursL_length (xs : List Int) : (foursL xs).length = 4 * xs.length := by induction xs with | nil => rfl | cons x xs ih => simp [foursL] at ih ⊢; omega
end Go.Proofs.Ytbdejnnbpdgjlaa.Ax
namespace Go.Proofs.Ytbdejnnbpdgjlaa.Ax
open Go Go.RowKit
set_option linter.unusedVariables false
set_option linter.unusedSimpArgs false
set_option maxRecDepth 100000
set_option maxHeartbeats 20000000
def oneP (fl k : Int) (v : List Int) : List Int := if v.length > 255 then (fl + 16) :: k :: ((v.length / 256 : Nat) : Int) :: ((v.length % 256 : Nat) : Int) :: v else fl :: k :: (v.length : Int) :: v
def pathB (p : List Int) : List Int := if p = [] then [] else 2 :: (p.length : Int) :: foursL p
def putP (a : AV) : List Int := oneP 64 1 [a.origin] ++ oneP 64 2 (pathB a.path) ++ oneP 64 3 (foursL [a.hop]) ++ (if a.hasMed = true then oneP 128 4 (foursL [a.med]) else []) ++ (if a.hasPref = true then oneP 64 5 (foursL [a.pref]) else []) ++ (if a.comms = [] then [] else oneP 192 8 (foursL a.comms))
def rightP (a : AV) : Prop := a.comms.Pairwise (· < ·) ∧ a.path.length ≤ 255 ∧ a.comms.length ≤ 255 ∧ 0 ∉ a.path ∧ 0 ≤ a.origin ∧ a.origin ≤ 2 ∧ a.hop ≠ 0 ∧ a.hop < 3758096384 ∧ (a.hasMed = false → a.med = 0) ∧ (a.hasPref = false → a.pref = 0)
instance (a : AV) : Decidable (rightP a) := by unfold rightP; infer_instance
def u32 (x : Int) : Prop := 0 ≤ x ∧ x ≤ 4294967295
def goodAV (a : AV) : Prop := (∀ x ∈ a.path, u32 x) ∧ u32 a.hop ∧ u32 a.med ∧ u32 a.pref ∧ ∀ x ∈ a.comms, u32 x
theorem foursL_cons (x : Int) (xs : List Int) : foursL (x :: xs) = [x / 16777216, x / 65536 % 256, x / 256 % 256, x % 256] ++ foursL xs := by simp [foursL]
theorem wordAt_fours {x : Int} (hx : u32 x) (l : List Int) : wordAt (foursL (x :: l)) 0 = x := by
 rw [foursL_cons]
 have h1 := hx.1
 have h2 := hx.2
 show x / 16777216 * 16777216 + x / 65536 % 256 * 65536 + x / 256 % 256 * 256 + x % 256 = x
 omega
theorem words_fours : ∀ (l ys : List Int), (∀ x ∈ l, u32 x) → words (foursL l ++ ys) l.length = l := by
 have key : ∀ (l ys : List Int), (∀ x ∈ l, u32 x) → ∀ j, j < l.length → wordAt (foursL l ++ ys) (4 * j) = l.getD j 0 := by
  intro l
  induction l with
  | nil => intro ys _ j hj; simp at hj
  | cons x l ih =>
   intro ys h j hj
   cases j with
   | zero =>
    have h1 := (h x (by simp)).1
    have h2 := (h x (by simp)).2
    rw [foursL_cons]
    show x / 16777216 * 16777216 + x / 65536 % 256 * 65536 + x / 256 % 256 * 256 + x % 256 = x
    omega
   | succ j =>
    have := ih ys (fun x hx => h x (List.mem_cons_of_mem _ hx)) j (by simpa using hj)
    rw [foursL_cons, List.append_assoc]
    exact this
 intro l ys h
 apply List.ext_getElem
 ·rw [words_length]
 ·intro i h1 h2
  have e : ∀ (q : List Int) (n j : Nat) (h : j < (words q n).length), (words q n)[j] = wordAt q (4 * j) := fun q n j h => by
   simp only [words, List.getElem_map, List.getElem_range]
  rw [e, key l ys h i h2, getD_lt h2]
theorem stepE_one {fl k : Int} {v : List Int} (hf : flagsP k = fl) (h0 : fl = 64 ∨ fl = 128 ∨ fl = 192) : stepE fl k v = (takeP AV.zero k v).2 ∧ stepE (fl + 16) k v = (takeP AV.zero k v).2 := by
 unfold stepE
 rw [hf]
 constructor
 ·rw [if_neg (by omega), if_neg (by omega)]
 ·rw [if_neg (by omega), if_neg (by omega)]
theorem oneP_parts {fl k : Int} {v : List Int} (h0 : fl = 64 ∨ fl = 128 ∨ fl = 192) (hl : v.length ≤ 65535) : cutP (oneP fl k v) ∧ ((oneP fl k v).getD 0 0 = fl ∨ (oneP fl k v).getD 0 0 = fl + 16) ∧ (oneP fl k v).getD 1 0 = k ∧ valP (oneP fl k v) = v ∧ restP (oneP fl k v) = [] ∧ oneP fl k v ≠ [] := by
 unfold oneP
 by_cases h : v.length > 255
 ·rw [if_pos h]
  have hh : headP ((fl + 16) :: k :: ((v.length / 256 : Nat) : Int) :: ((v.length % 256 : Nat) : Int) :: v) = 4 := by
   unfold headP
   rw [show ((fl + 16) :: k :: ((v.length / 256 : Nat) : Int) :: ((v.length % 256 : Nat) : Int) :: v).getD 0 0 = fl + 16 from rfl, if_pos (by omega)]
  have hs : sizeP ((fl + 16) :: k :: ((v.length / 256 : Nat) : Int) :: ((v.length % 256 : Nat) : Int) :: v) = v.length := by
   unfold sizeP
   rw [show ((fl + 16) :: k :: ((v.length / 256 : Nat) : Int) :: ((v.length % 256 : Nat) : Int) :: v).getD 0 0 = fl + 16 from rfl, if_pos (by omega)]
   show (((v.length / 256 : Nat) : Int) * 256 + ((v.length % 256 : Nat) : Int)).toNat = v.length
   omega
  refine ⟨⟨by rw [hh]; simp, by rw [hh, hs]; simp; omega⟩, .inr rfl, rfl, ?_, ?_, by simp⟩
  ·unfold valP; rw [hh, hs]; simp
  ·unfold restP; rw [hh, hs]; apply List.drop_of_length_le; simp; omega
 ·rw [if_neg h]
  have hh : headP (fl :: k :: (v.length : Int) :: v) = 3 := by
   unfold headP
   rw [show (fl :: k :: (v.length : Int) :: v).getD 0 0 = fl from rfl, if_neg (by omega)]
  have hs : sizeP (fl :: k :: (v.length : Int) :: v) = v.length := by
   unfold sizeP
   rw [show (fl :: k :: (v.length : Int) :: v).getD 0 0 = fl from rfl, if_neg (by omega)]
   rfl
  refine ⟨⟨by rw [hh]; simp, by rw [hh, hs]; simp; omega⟩, .inl rfl, rfl, ?_, ?_, by simp⟩
  ·unfold valP; rw [hh, hs]; simp
  ·unfold restP; rw [hh, hs]; apply List.drop_of_length_le; simp; omega
theorem readP_one {fl k : Int} {v : List Int} (need : Bool) (hf : flagsP k = fl) (h0 : fl = 64 ∨ fl = 128 ∨ fl = 192) (hl : v.length ≤ 65535) (ys : List Int) (met : Int → Bool) (a : AV) (hm : met k = false) (ht : (takeP a k v).2 = 0) {F : Nat} (hF : (oneP fl k v ++ ys).length < F) :
  readP need F (oneP fl k v ++ ys) met a = readP need (ys.length + 1) ys (metU met k) (takeP a k v).1 := by
 obtain ⟨p1, p2, p3, p4, p5, p6⟩ := oneP_parts (k := k) h0 hl
 obtain ⟨c1, c2, c3, c4, c5, c6, c7⟩ := cut_app ys p1
 obtain ⟨f, rfl⟩ : ∃ f, F = f + 1 := ⟨F - 1, by omega⟩
 obtain ⟨s1, s2⟩ := stepE_one (v := v) hf h0
 have hx : oneP fl k v ++ ys ≠ [] := by intro e; exact p6 (List.append_eq_nil_iff.1 e).1
 rw [readP_step _ _ _ _ _ hx, c4, c5, c6, c7, p3, p4, p5, List.nil_append, if_neg (by rintro (h | h); exact h c3; rw [hm] at h; cases h)]
 have he : stepE ((oneP fl k v).getD 0 0) k v = 0 := by
  rw [takeP_err a AV.zero] at ht
  rcases p2 with p2 | p2
  ·rw [p2, s1, ht]
  ·rw [p2, s2, ht]
 rw [if_pos he]
 unfold stepA
 rw [if_neg (by rw [hf]; omega)]
 refine readP_fuel ?_ (by omega)
 have := List.length_pos_iff.2 p6
 simp at hF
 omega
theorem segP_put {p : List Int} (h1 : p.length ≤ 255) (hr : ∀ x ∈ p, u32 x) : segP ((pathB p).length + 1) (pathB p) = some p := by
 unfold pathB
 by_cases h : p = []
 ·subst h; rfl
 ·rw [if_neg h]
  have hp := List.length_pos_iff.2 h
  have hfl := foursL_length p
  rw [segP_good (ys := 2 :: (p.length : Int) :: foursL p) (q := p.length) (by simp) (by simp) rfl rfl hp (by simp; omega)]
  have e : (2 :: (p.length : Int) :: foursL p).drop (2 + 4 * p.length) = [] := by apply List.drop_of_length_le; simp; omega
  rw [e]
  have := words_fours p [] hr
  rw [List.append_nil] at this
  show (Option.map (fun l => words (foursL p) p.length ++ l) (segP 1 [])) = some p
  rw [this]
  simp [segP]
theorem pathB_length (p : List Int) : (pathB p).length ≤ 2 + 4 * p.length := by
 unfold pathB; split
 ·simp
 ·simp [foursL_length]; omega
theorem uniq_self {l : List Int} (h : l.Pairwise (· < ·)) : uniq l = l := (uniq_eq h fun _ => Iff.rfl).symm
theorem takeP_1 {a : AV} {v : List Int} (h : v.length = 1) (h2 : ¬ v.getD 0 0 > 2) : takeP a 1 v = ({ a with origin := v.getD 0 0 }, 0) := by
 unfold takeP
 rw [if_neg (by unfold lenP; simp [h]), if_pos rfl, if_neg h2]
theorem takeP_2 {a : AV} {v l : List Int} (h : pathP v = some l) : takeP a 2 v = ({ a with path := l }, 0) := by
 unfold takeP
 rw [if_neg (by unfold lenP; simp), if_neg (by decide), if_pos rfl, h]
theorem takeP_3 {a : AV} {v : List Int} (h : v.length = 4) (h1 : wordAt v 0 ≠ 0) (h2 : wordAt v 0 < 3758096384) : takeP a 3 v = ({ a with hop := wordAt v 0 }, 0) := by
 unfold takeP
 rw [if_neg (by unfold lenP; simp [h]), if_neg (by decide), if_neg (by decide), if_pos rfl, if_neg (by omega)]
theorem takeP_4 {a : AV} {v : List Int} (h : v.length = 4) : takeP a 4 v = ({ a with med := wordAt v 0, hasMed := true }, 0) := by
 unfold takeP
 rw [if_neg (by unfold lenP; simp [h]), if_neg (by decide), if_neg (by decide), if_neg (by decide), if_pos rfl]
theorem takeP_5 {a : AV} {v : List Int} (h : v.length = 4) : takeP a 5 v = ({ a with pref := wordAt v 0, hasPref := true }, 0) := by
 unfold takeP
 rw [if_neg (by unfold lenP; simp [h]), if_neg (by decide), if_neg (by decide), if_neg (by decide), if_neg (by decide), if_pos rfl]
theorem takeP_8 {a : AV} {l : List Int} (h1 : l.Pairwise (· < ·)) (h2 : l.length ≤ 255) (hr : ∀ x ∈ l, u32 x) : takeP a 8 (foursL l) = ({ a with comms := l }, 0) := by
 have fl := foursL_length l
 have hw : uniq (words (foursL l) ((foursL l).length / 4)) = l := by
  have := words_fours l [] hr
  rw [List.append_nil] at this
  rw [fl, Nat.mul_div_cancel_left _ (by omega), this, uniq_self h1]
 unfold takeP
 rw [if_neg (by unfold lenP; simp [fl]), if_neg (by decide), if_neg (by decide), if_neg (by decide), if_neg (by decide), if_neg (by decide), if_pos rfl, hw, if_neg (by omega)]
theorem readP_one' {fl k : Int} {v : List Int} {a b : AV} (need : Bool) (hf : flagsP k = fl) (h0 : fl = 64 ∨ fl = 128 ∨ fl = 192) (hl : v.length ≤ 65535) (ys : List Int) (met : Int → Bool) (hm : met k = false) (ht : takeP a k v = (b, 0)) {F : Nat} (hF : (oneP fl k v ++ ys).length < F) :
  readP need F (oneP fl k v ++ ys) met a = readP need (ys.length + 1) ys (metU met k) b := by
 rw [readP_one need hf h0 hl ys met a hm (by rw [ht]) hF, ht]
theorem put_last {l : List Int} (r1 : l.Pairwise (· < ·)) (r3 : l.length ≤ 255) (g5 : ∀ x ∈ l, u32 x) (met : Int → Bool) (A : AV) (m8 : met 8 = false) (m1 : met 1 = true) (m2 : met 2 = true) (m3 : met 3 = true) (hA : A.comms = []) {F : Nat} (hF : (if l = [] then [] else oneP 192 8 (foursL l)).length < F) :
  readP true F (if l = [] then [] else oneP 192 8 (foursL l)) met A = ({ A with comms := l }, 0) := by
 by_cases hc : l = []
 ·rw [if_pos hc] at hF ⊢
  rw [readP_fuel hF (show ([] : List Int).length < 0 + 1 by simp), readP_nil, m1, m2, m3]
  simp only [Bool.and_self, Bool.not_true, Bool.and_false, Bool.false_eq_true, if_false]
  rw [hc, ← hA]
 ·rw [if_neg hc] at hF ⊢
  have fl := foursL_length l
  have := readP_one' true (show flagsP 8 = 192 by rfl) (.inr (.inr rfl)) (v := foursL l) (by omega) [] met m8 (takeP_8 (a := A) r1 r3 g5) (F := F) (by rw [List.append_nil]; exact hF)
  rw [List.append_nil] at this
  rw [this, show ([] : List Int).length + 1 = 0 + 1 from rfl, readP_nil]
  simp [metU, m1, m2, m3]
theorem put_pref {l : List Int} {q : Int} {hq : Bool} (r1 : l.Pairwise (· < ·)) (r3 : l.length ≤ 255) (g5 : ∀ x ∈ l, u32 x) (g4 : u32 q) (r10 : hq = false → q = 0) (met : Int → Bool) (A : AV) (m5 : met 5 = false) (m8 : met 8 = false) (m1 : met 1 = true) (m2 : met 2 = true) (m3 : met 3 = true) (hA : A.comms = []) (h1 : A.pref = 0) (h2 : A.hasPref = false) {F : Nat} (hF : ((if hq = true then oneP 64 5 (foursL [q]) else []) ++ (if l = [] then [] else oneP 192 8 (foursL l))).length < F) :
  readP true F ((if hq = true then oneP 64 5 (foursL [q]) else []) ++ (if l = [] then [] else oneP 192 8 (foursL l))) met A = ({ A with pref := q, hasPref := hq, comms := l }, 0) := by
 cases hq with
 | true =>
  rw [if_pos rfl] at hF ⊢
  rw [readP_one' true (by rfl) (.inl rfl) (by simp [foursL_length]) _ _ m5 (takeP_5 (a := A) (foursL_length [q])) hF, wordAt_fours g4 []]
  rw [put_last r1 r3 g5 (metU met 5) { A with pref := q, hasPref := true } (by simp [metU, m8]) (by simp [metU, m1]) (by simp [metU, m2]) (by simp [metU, m3]) hA (by omega)]
 | false =>
  rw [if_neg (by decide), List.nil_append] at hF ⊢
  rw [put_last r1 r3 g5 met A m8 m1 m2 m3 hA hF, r10 rfl]
  obtain ⟨o, p, h, m, q', hm, hq', c⟩ := A
  simp only at h1 h2
  subst h1 h2
  rfl
theorem rd_put {a : AV} (hr : rightP a) (hg : goodAV a) : rdP true (putP a) = (a, 0) := by
 obtain ⟨r1, r2, r3, r4, r5, r6, r7, r8, r9, r10⟩ := hr
 obtain ⟨g1, g2, g3, g4, g5⟩ := hg
 unfold rdP putP
 simp only [List.append_assoc]
 have hp2 := pathB_length a.path
 have hp : pathP (pathB a.path) = some a.path := by unfold pathP; rw [segP_put r2 g1]; simp [r2, r4]
 have w3 := wordAt_fours g2 []
 rw [readP_one' true (by rfl) (.inl rfl) (by simp) _ _ rfl (takeP_1 rfl (by show ¬ a.origin > 2; omega)) (by omega)]
 rw [readP_one' true (by rfl) (.inl rfl) (by omega) _ _ (by rfl) (takeP_2 hp) (by omega)]
 rw [readP_one' true (by rfl) (.inl rfl) (by simp [foursL_length]) _ _ (by rfl) (takeP_3 (foursL_length [a.hop]) (by rw [w3]; exact r7) (by rw [w3]; exact r8)) (by omega), w3]
 cases hq : a.hasMed with
 | true =>
  rw [if_pos rfl]
  rw [readP_one' true (by rfl) (.inr (.inl rfl)) (by simp [foursL_length]) _ _ (by rfl) (takeP_4 (foursL_length [a.med])) (by omega), wordAt_fours g3 []]
  rw [put_pref r1 r3 g5 g4 r10 _ _ (by rfl) (by rfl) (by rfl) (by rfl) (by rfl) rfl rfl rfl (by omega), ← hq]
  rfl
 | false =>
  rw [if_neg (by decide), List.nil_append, put_pref r1 r3 g5 g4 r10 _ _ (by rfl) (by rfl) (by rfl) (by rfl) (by rfl) rfl rfl rfl (by omega)]
  have := r9 hq
  obtain ⟨o, p, h, m, q, hm, hq', c⟩ := a
  simp only at this hq
  subst this hq
  rfl
def partP (met : Int → Bool) (a : AV) : Prop := a.comms.Pairwise (· < ·) ∧ a.path.length ≤ 255 ∧ a.comms.length ≤ 255 ∧ 0 ∉ a.path ∧ 0 ≤ a.origin ∧ a.origin ≤ 2 ∧ (met 3 = true → a.hop ≠ 0 ∧ a.hop < 3758096384) ∧ (a.hasMed = false → a.med = 0) ∧ (a.hasPref = false → a.pref = 0) ∧ goodAV a
theorem wordAt_u32 {xs : List Int} (hb : ∀ x ∈ xs, 0 ≤ x ∧ x ≤ 255) (i : Nat) : u32 (wordAt xs i) := by
 have h0 := getD_byte hb i
 have h1 := getD_byte hb (i + 1)
 have h2 := getD_byte hb (i + 2)
 have h3 := getD_byte hb (i + 3)
 unfold isByte at h0 h1 h2 h3
 unfold u32 wordAt
 omega
theorem words_u32 {xs : List Int} (hb : ∀ x ∈ xs, 0 ≤ x ∧ x ≤ 255) (n : Nat) : ∀ x ∈ words xs n, u32 x := by
 intro x hx
 unfold words at hx
 obtain ⟨j, _, rfl⟩ := List.mem_map.1 hx
 exact wordAt_u32 hb _
theorem segP_u32 : ∀ {f : Nat} {xs l : List Int}, (∀ x ∈ xs, 0 ≤ x ∧ x ≤ 255) → segP f xs = some l → ∀ x ∈ l, u32 x
 | 0, _, _, _, h => by cases h
 | f + 1, xs, l, hb, h => by
  unfold segP at h
  split at h
  ·cases h; simp
  ·split at h
   ·cases h
   ·obtain ⟨m, hm, rfl⟩ := Option.map_eq_some_iff.1 h
    intro x hx
    rcases List.mem_append.1 hx with hx | hx
    ·exact words_u32 (fun x hx => hb x (List.mem_of_mem_drop hx)) _ x hx
    ·exact segP_u32 (fun x hx => hb x (List.mem_of_mem_drop hx)) hm x hx
theorem part_step {fl k : Int} {v : List Int} {met : Int → Bool} {a : AV} (hb : ∀ x ∈ v, 0 ≤ x ∧ x ≤ 255) (he : stepE fl k v = 0) (h : partP met a) : partP (metU met k) (stepA a k v) := by
 obtain ⟨r1, r2, r3, r4, r5, r6, r7, r9, r10, g1, g2, g3, g4, g5⟩ := h
 have hm : ∀ b : AV, b.hop = a.hop → k ≠ 3 → (metU met k 3 = true → b.hop ≠ 0 ∧ b.hop < 3758096384) := by
  intro b hb hk h3
  rw [hb]
  unfold metU at h3
  rw [if_neg (Ne.symm hk)] at h3
  exact r7 h3
 rcases step_cases he with ⟨h0, n1, n2, n3, n4, n5, n8⟩ | ⟨h0, h1⟩
 ·unfold stepA
  rw [if_pos h0]
  exact ⟨r1, r2, r3, r4, r5, r6, hm a rfl n3, r9, r10, g1, g2, g3, g4, g5⟩
 ·unfold stepA
  rw [if_neg h0]
  rw [takeP_err AV.zero a] at h1
  unfold takeP at h1 ⊢
  by_cases hl : lenP k v.length = false
  ·rw [if_pos hl] at h1; simp at h1
  simp only [if_neg hl] at h1 ⊢
  by_cases k1 : k = 1
  ·subst k1
   simp only [if_true] at h1 ⊢
   by_cases c : v.getD 0 0 > 2
   ·rw [if_pos c] at h1; simp at h1
   ·rw [if_neg c]
    have := getD_byte hb 0
    exact ⟨r1, r2, r3, r4, this.1, by simp only; omega, hm _ rfl (by decide), r9, r10, g1, g2, g3, g4, g5⟩
  simp only [if_neg k1] at h1 ⊢
  by_cases k2 : k = 2
  ·subst k2
   simp only [if_true] at h1 ⊢
   cases hp : pathP v with
   | none => rw [hp] at h1; simp at h1
   | some l =>
    unfold pathP at hp
    obtain ⟨m, hm1, hm2⟩ := Option.bind_eq_some_iff.1 hp
    split at hm2
    ·cases hm2
     rename_i hc
     exact ⟨r1, hc.1, r3, hc.2, r5, r6, hm _ rfl (by decide), r9, r10, segP_u32 hb hm1, g2, g3, g4, g5⟩
    ·cases hm2
  simp only [if_neg k2] at h1 ⊢
  by_cases k3 : k = 3
  ·subst k3
   simp only [if_true] at h1 ⊢
   by_cases c : wordAt v 0 = 0 ∨ wordAt v 0 ≥ 3758096384
   ·rw [if_pos c] at h1; simp at h1
   ·rw [if_neg c]
    exact ⟨r1, r2, r3, r4, r5, r6, fun _ => ⟨fun e => c (.inl e), by simp only; omega⟩, r9, r10, g1, wordAt_u32 hb 0, g3, g4, g5⟩
  simp only [if_neg k3] at h1 ⊢
  by_cases k4 : k = 4
  ·subst k4
   simp only [if_true]
   exact ⟨r1, r2, r3, r4, r5, r6, hm _ rfl (by decide), (fun h => by cases h), r10, g1, g2, wordAt_u32 hb 0, g4, g5⟩
  simp only [if_neg k4] at h1 ⊢
  by_cases k5 : k = 5
  ·subst k5
   simp only [if_true]
   exact ⟨r1, r2, r3, r4, r5, r6, hm _ rfl (by decide), r9, (fun h => by cases h), g1, g2, g3, wordAt_u32 hb 0, g5⟩
  simp only [if_neg k5] at h1 ⊢
  by_cases k8 : k = 8
  ·subst k8
   simp only [if_true] at h1 ⊢
   by_cases c : (uniq (words v (v.length / 4))).length > 255
   ·rw [if_pos c] at h1; simp at h1
   ·rw [if_neg c]
    exact ⟨uniq_rise _, r2, by simp only; omega, r4, r5, r6, hm _ rfl (by decide), r9, r10, g1, g2, g3, g4, fun x hx => words_u32 hb _ x (uniq_mem.1 hx)⟩
  simp only [if_neg k8]
  exact ⟨r1, r2, r3, r4, r5, r6, hm _ rfl k3, r9, r10, g1, g2, g3, g4, g5⟩
theorem Rd.part {xs : List Int} {met : Int → Bool} {a a' : AV} {ks : List Int} (h : Rd xs met a ks a') (hb : ∀ x ∈ xs, 0 ≤ x ∧ x ≤ 255) (hp : partP met a) : partP (metA met ks) a' := by
 induction h with
 | nil met a =>
  have : metA met [] = met := by funext i; simp [metA]
  rw [this]; exact hp
 | cons xs met a ks a' hx hc hm he t ih =>
  rw [← metA_cons]
  exact ih (fun x hx => hb x (List.mem_of_mem_drop hx)) (part_step (fun x hx => hb x (List.mem_of_mem_drop (List.mem_of_mem_take hx))) he hp)
theorem partP_zero : partP (fun _ => false) AV.zero := by
 refine ⟨.nil, by decide, by decide, by simp [AV.zero], by decide, by decide, by simp, fun _ => rfl, fun _ => rfl, by simp [AV.zero], by unfold u32; decide, by unfold u32; decide, by unfold u32; decide, by simp [AV.zero]⟩
theorem rd_right {xs : List Int} (hb : ∀ x ∈ xs, 0 ≤ x ∧ x ≤ 255) (h : (rdP true xs).2 = 0) : rightP (rdP true xs).1 ∧ goodAV (rdP true xs).1 := by
 unfold rdP at *
 obtain ⟨ks, r1, r2⟩ := rd_of (by omega) h
 obtain ⟨p1, p2, p3, p4, p5, p6, p7, p8, p9, p10⟩ := r1.part hb partP_zero
 have h3 : metA (fun _ => false) ks 3 = true := by
  rcases r2 rfl 3 (by simp) with h | h
  ·cases h
  ·simp [metA, h]
 exact ⟨⟨p1, p2, p3, p4, p5, p6, (p7 h3).1, (p7 h3).2, p8, p9⟩, p10⟩
theorem readP_wrong {need : Bool} : ∀ {f : Nat} {xs : List Int} {met : Int → Bool} {a : AV}, (readP need f xs met a).2 ≠ 0 → (readP need f xs met a).1 = AV.zero
 | 0, _, _, _, _ => rfl
 | f + 1, xs, met, a, h => by
  by_cases hx : xs = []
  ·subst hx
   rw [readP_nil] at h ⊢
   split at h
   ·rename_i hc; rw [if_pos hc]
   ·exact absurd rfl h
  ·rw [readP_step _ _ _ _ _ hx] at h ⊢
   split
   ·rfl
   ·rename_i hc
    rw [if_neg hc] at h
    split
    ·rename_i hc2
     rw [if_pos hc2] at h
     exact readP_wrong h
    ·rfl
theorem rd_wrong {need : Bool} {xs : List Int} (h : (rdP need xs).2 ≠ 0) : rdP need xs = (AV.zero, (rdP need xs).2) := by
 have := readP_wrong (f := xs.length + 1) (xs := xs) h
 unfold rdP at *
 exact Prod.ext this rfl
theorem foursL_bytes : ∀ {l : List Int}, (∀ x ∈ l, u32 x) → ∀ y ∈ foursL l, 0 ≤ y ∧ y ≤ 255
 | [], _, y, hy => by simp [foursL] at hy
 | x :: l, h, y, hy => by
  rw [foursL_cons] at hy
  have hx := h x (by simp)
  have h1 := hx.1
  have h2 := hx.2
  rcases List.mem_append.1 hy with hy | hy
  ·simp at hy
   rcases hy with rfl | rfl | rfl | rfl <;> omega
  ·exact foursL_bytes (fun x hx => h x (List.mem_cons_of_mem _ hx)) y hy
theorem oneP_bytes {fl k : Int} {v : List Int} (h0 : 0 ≤ fl ∧ fl ≤ 192) (hk : 0 ≤ k ∧ k ≤ 255) (hl : v.length ≤ 65535) (hv : ∀ x ∈ v, 0 ≤ x ∧ x ≤ 255) : ∀ x ∈ oneP fl k v, 0 ≤ x ∧ x ≤ 255 := by
 intro x hx
 unfold oneP at hx
 split at hx
 ·simp only [List.mem_cons] at hx
  rcases hx with rfl | rfl | rfl | rfl | hx
  ·omega
  ·omega
  ·omega
  ·omega
  ·exact hv x hx
 ·simp only [List.mem_cons] at hx
  rcases hx with rfl | rfl | rfl | hx
  ·omega
  ·omega
  ·omega
  ·exact hv x hx
theorem oneP_len' (fl k : Int) (v : List Int) : (oneP fl k v).length ≤ 4 + v.length := by unfold oneP; split <;> simp <;> omega
theorem pathB_bytes {p : List Int} (hl : p.length ≤ 255) (h : ∀ x ∈ p, u32 x) : ∀ x ∈ pathB p, 0 ≤ x ∧ x ≤ 255 := by
 intro x hx
 unfold pathB at hx
 split at hx
 ·cases hx
 ·simp only [List.mem_cons] at hx
  rcases hx with rfl | rfl | hx
  ·omega
  ·omega
  ·exact foursL_bytes h x hx
theorem putP_bytes {a : AV} (hr : rightP a) (hg : goodAV a) : (∀ x ∈ putP a, 0 ≤ x ∧ x ≤ 255) ∧ (putP a).length ≤ 3000 := by
 obtain ⟨r1, r2, r3, r4, r5, r6, r7, r8, r9, r10⟩ := hr
 obtain ⟨g1, g2, g3, g4, g5⟩ := hg
 have b1 := pathB_length a.path
 have one1 : ∀ z, u32 z → ∀ x ∈ [z], u32 x := fun z hz x hx => by rcases List.mem_singleton.1 hx with rfl; exact hz
 constructor
 ·intro x hx
  unfold putP at hx
  rcases List.mem_append.1 hx with hx | hx
  ·rcases List.mem_append.1 hx with hx | hx
   ·rcases List.mem_append.1 hx with hx | hx
    ·rcases List.mem_append.1 hx with hx | hx
     ·rcases List.mem_append.1 hx with hx | hx
      ·exact oneP_bytes (by omega) (by omega) (by simp) (fun y hy => by rcases List.mem_singleton.1 hy with rfl; omega) x hx
      ·exact oneP_bytes (by omega) (by omega) (by omega) (pathB_bytes r2 g1) x hx
     ·exact oneP_bytes (by omega) (by omega) (by rw [foursL_length]; simp) (foursL_bytes (one1 _ g2)) x hx
    ·split at hx
     ·exact oneP_bytes (by omega) (by omega) (by rw [foursL_length]; simp) (foursL_bytes (one1 _ g3)) x hx
     ·cases hx
   ·split at hx
    ·exact oneP_bytes (by omega) (by omega) (by rw [foursL_length]; simp) (foursL_bytes (one1 _ g4)) x hx
    ·cases hx
  ·split at hx
   ·cases hx
   ·exact oneP_bytes (by omega) (by omega) (by rw [foursL_length]; omega) (foursL_bytes g5) x hx
 ·have n1 := oneP_len' 64 1 [a.origin]
  have n2 := oneP_len' 64 2 (pathB a.path)
  have n3 := oneP_len' 64 3 (foursL [a.hop])
  have n4 := oneP_len' 128 4 (foursL [a.med])
  have n5 := oneP_len' 64 5 (foursL [a.pref])
  have n8 := oneP_len' 192 8 (foursL a.comms)
  rw [foursL_length] at n3 n4 n5 n8
  simp only [List.length_cons, List.length_nil] at n1 n3 n4 n5
  have n4' : (if a.hasMed = true then oneP 128 4 (foursL [a.med]) else []).length ≤ 8 := by split; omega; simp
  have n5' : (if a.hasPref = true then oneP 64 5 (foursL [a.pref]) else []).length ≤ 8 := by split; omega; simp
  have n8' : (if a.comms = [] then [] else oneP 192 8 (foursL a.comms)).length ≤ 4 + 4 * a.comms.length := by split; simp; omega
  unfold putP
  simp only [List.length_append]
  omega
end Go.Proofs.Ytbdejnnbpdgjlaa.Ax
