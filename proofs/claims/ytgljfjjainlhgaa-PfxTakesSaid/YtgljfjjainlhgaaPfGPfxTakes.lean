/- A prefix is in what Minus leaves, in one range of it alone, just if it is in the first range and not in the second: plain lemmas. No conditions. -/
import Derived.Test.YtgljfjjainlhgaaPfFPfxTakes
namespace Go.Proofs.Ytgljfjjainlhgaa.PPfxTakes
open Go.RowKit Go.Proofs.YtgljfjjainlhgaaW.PrintWords Go.Proofs.YtgljfjjainlhgaaW.PrintLast Go.Proofs.YtgljfjjainlhgaaW.PrintMore
set_option linter.unusedVariables false
set_option linter.unusedSimpArgs false
def cnt (p0 p1 : Int) (l : List S26) : Nat := l.countP (inB p0 p1)
theorem cnt_app (p0 p1 : Int) (l m : List S26) : cnt p0 p1 (l ++ m) = cnt p0 p1 l + cnt p0 p1 m := List.countP_append
theorem ite_iff {P Q : Prop} [Decidable P] [Decidable Q] (h : P ↔ Q) : (if P then (1 : Nat) else 0) = if Q then 1 else 0 := by
  by_cases hp : P
  · rw [if_pos hp, if_pos (h.1 hp)]
  · rw [if_neg hp, if_neg (fun hq => hp (h.2 hq))]
theorem cnt_put (p0 p1 : Int) (out : List S26) (a l ge le : Int) : cnt p0 p1 (putR out a l ge le) = cnt p0 p1 out + if ge ≤ le ∧ inB p0 p1 ⟨⟨a, l⟩, ge, le⟩ = true then 1 else 0 := by
  unfold putR
  by_cases h : ge ≤ le
  · rw [if_pos h, cnt_app]
    congr 1
    unfold cnt
    rw [List.countP_singleton]
    by_cases h2 : inB p0 p1 ⟨⟨a, l⟩, ge, le⟩ = true
    · rw [if_pos h2, if_pos ⟨h, h2⟩]
    · rw [if_neg h2, if_neg (fun h3 => h2 h3.2)]
  · rw [if_neg h, if_neg (fun h3 => h h3.1)]
    rfl
theorem minus_cnt (a m : S26) (ha : RightR a) (hm : route_Mask.f m.f0.f0 m.f0.f1 = some (m.f0.f0, m.f0.f1)) (h1 : a.f0.f1 ≤ m.f0.f1) (h2 : m.f0.f1 ≤ m.f1) (h3 : m.f1 ≤ m.f2) (h4 : a.f1 ≤ m.f1) (h5 : m.f2 ≤ a.f2) (p0 p1 : Int) (hp : route_Mask.f p0 p1 = some (p0, p1)) (d : Nat) :
    ∀ (k : Nat) (n : Int) (out r : List S26), n + d = m.f0.f1 + 1 → a.f0.f1 + 1 ≤ n → pfx_Minus.l0 k a m out n = some r →
      cnt p0 p1 r = cnt p0 p1 out + (if (m.f1 ≤ p1 ∧ p1 ≤ m.f2) ∧ top p0 (n - 1) = top m.f0.f0 (n - 1) ∧ ¬ top p0 m.f0.f1 = top m.f0.f0 m.f0.f1 then 1 else 0) + (if m.f2 + 1 ≤ p1 ∧ p1 ≤ a.f2 ∧ top p0 a.f0.f1 = top a.f0.f0 a.f0.f1 then 1 else 0) := by
  have ha1 := (rightR_iff a).1 ha
  have ha2 := mask_fix ha1.1
  have hm2 := mask_fix hm
  induction d with
  | zero =>
    intro k n out r hn hn1 h
    cases k with
    | zero => cases h
    | succ k =>
    simp only [pfx_Minus.l0] at h
    by_cases ho : out.length < 900000
    · rw [if_pos ho, if_neg (by omega), w64_id (by omega) (by omega)] at h
      obtain rfl := Option.some.inj h
      rw [cnt_put, show n - 1 = m.f0.f1 by omega, if_neg (show ¬ ((m.f1 ≤ p1 ∧ p1 ≤ m.f2) ∧ top p0 m.f0.f1 = top m.f0.f0 m.f0.f1 ∧ ¬ top p0 m.f0.f1 = top m.f0.f0 m.f0.f1) from fun h => h.2.2 h.2.1), Nat.add_zero]
      congr 1
      by_cases hc : m.f2 + 1 ≤ a.f2
      · have hR : RightR (⟨⟨a.f0.f0, a.f0.f1⟩, m.f2 + 1, a.f2⟩ : S26) := (rightR_iff _).2 ⟨ha1.1, by show a.f0.f1 ≤ m.f2 + 1; omega, hc, ha1.2.2.2⟩
        have hi := inP_iff _ hR p0 p1
        refine ite_iff ?_
        rw [inB_iff, hi]
        simp only [hc, hp, true_and]
      · rw [if_neg (fun h => hc h.1), if_neg (fun h => hc (by omega))]
    · rw [if_neg ho] at h
      cases h
  | succ d ih =>
    intro k n out r hn hn1 h
    cases k with
    | zero => cases h
    | succ k =>
    simp only [pfx_Minus.l0] at h
    by_cases ho : out.length < 900000
    · rw [if_pos ho, if_pos (by omega), w64_id (x := 32 - n) (by omega) (by omega), if_pos (by omega)] at h
      have hq := turned_val hm2.2.2.2.2.1 hm2.2.2.2.2.2.1 (show 1 ≤ n by omega) (show n ≤ 32 by omega)
      rw [hq] at h
      simp only [Option.bind_some] at h
      rw [w64_id (x := n + 1) (by omega) (by omega)] at h
      rw [ih k (n + 1) _ r (by omega) (by omega) h, cnt_put, show n + 1 - 1 = n by omega]
      have hs := pow_bd' (n := (32 - n).toNat) (by omega)
      have hR : RightR (⟨⟨(if m.f0.f0 / 2 ^ (32 - n).toNat % 2 = 1 then m.f0.f0 / 2 ^ (32 - n).toNat - 1 else m.f0.f0 / 2 ^ (32 - n).toNat + 1) * 2 ^ (32 - n).toNat, n⟩, m.f1, m.f2⟩ : S26) := (rightR_iff _).2 ⟨(mask_fix hq).1, by show n ≤ m.f1; omega, h3, by show m.f2 ≤ 32; omega⟩
      have hi := inP_iff _ hR p0 p1
      have htop : top ((if m.f0.f0 / 2 ^ (32 - n).toNat % 2 = 1 then m.f0.f0 / 2 ^ (32 - n).toNat - 1 else m.f0.f0 / 2 ^ (32 - n).toNat + 1) * 2 ^ (32 - n).toNat) n = turn (top m.f0.f0 n) := by
        unfold top turn
        rw [Int.mul_ediv_cancel _ (by omega)]
      have hpv := top_prev (x := p0) (y := m.f0.f0) (show 1 ≤ n by omega) (show n ≤ 32 by omega)
      have hne := turn_ne (top m.f0.f0 n)
      have hdown : top p0 m.f0.f1 = top m.f0.f0 m.f0.f1 → top p0 n = top m.f0.f0 n := fun he => top_mono (by omega) (by omega) (by omega) he
      simp only [inB_iff, hi, hp, true_and, h3, htop] 
      clear hq hi hR htop ih ha2 hm2 h hp hm ha ha1 hs
      generalize turn (top m.f0.f0 n) = u at *
      generalize top p0 n = t1 at *
      generalize top m.f0.f0 n = t2 at *
      generalize top p0 (n - 1) = t3 at *
      generalize top m.f0.f0 (n - 1) = t4 at *
      generalize top p0 m.f0.f1 = t5 at *
      generalize top m.f0.f0 m.f0.f1 = t6 at *
      generalize (if m.f2 + 1 ≤ p1 ∧ p1 ≤ a.f2 ∧ top p0 a.f0.f1 = top a.f0.f0 a.f0.f1 then 1 else 0) = z
      repeat' split
      all_goals omega
    · rw [if_neg ho] at h
      cases h
theorem cnt_none (p0 p1 : Int) (hp : ¬ route_Mask.f p0 p1 = some (p0, p1)) (l : List S26) : cnt p0 p1 l = 0 := by
  unfold cnt
  rw [List.countP_eq_zero]
  intro x _ h
  exact hp ((inB_iff x p0 p1).1 h).2.1
theorem inB_none (p0 p1 : Int) (hp : ¬ route_Mask.f p0 p1 = some (p0, p1)) (x : S26) : inB p0 p1 x = false := by
  rw [← Bool.not_eq_true]
  intro h
  exact hp ((inB_iff x p0 p1).1 h).2.1
theorem cnt_one (p0 p1 : Int) (x : S26) : cnt p0 p1 [x] = if inB p0 p1 x = true then 1 else 0 := by
  unfold cnt
  rw [List.countP_singleton]
theorem minus_sem (k : Nat) (hk : 100 ≤ k) (a b : S26) (ha : RightR a) (hb : RightR b) (r : List S26) (h : pfx_Minus.f k a.f0.f0 a.f0.f1 a.f1 a.f2 b.f0.f0 b.f0.f1 b.f1 b.f2 = some r) (p0 p1 : Int) :
    cnt p0 p1 r = if inB p0 p1 a = true ∧ inB p0 p1 b = false then 1 else 0 := by
  by_cases hp : route_Mask.f p0 p1 = some (p0, p1)
  · have ha1 := (rightR_iff a).1 ha
    have ha2 := mask_fix ha1.1
    have ia := inP_iff a ha p0 p1
    obtain ⟨m0, m1, m2, m3, ok, hm, hok, hno⟩ := meet_sem k hk a b ha hb
    unfold pfx_Minus.f at h
    rw [show pfx_Right.f a.f0.f0 a.f0.f1 a.f1 a.f2 = some true from ha, hm] at h
    simp only [Option.bind_some, if_true] at h
    cases ok with
    | false =>
      obtain rfl : [a] = r := by simpa using h
      have hn := hno rfl p0 p1
      rw [cnt_one]
      by_cases hA : inB p0 p1 a = true
      · have hB : inB p0 p1 b = false := by
          rw [← Bool.not_eq_true]
          intro h
          exact hn ⟨(inB_iff a p0 p1).1 hA, (inB_iff b p0 p1).1 h⟩
        rw [if_pos hA, if_pos ⟨hA, hB⟩]
      · rw [if_neg hA, if_neg (fun h => hA h.1)]
    | true =>
      simp only [if_true] at h
      obtain ⟨⟨g1, g2, g3, g4, g5, g6⟩, gT, gB⟩ := hok rfl
      have hm2 := mask_fix g1
      have gB := gB p0 p1
      rw [w64_id (x := m2 - 1) (by omega) (by omega), w64_id (x := a.f0.f1 + 1) (by omega) (by omega)] at h
      have hc := minus_cnt a ⟨⟨m0, m1⟩, m2, m3⟩ ha g1 g2 g3 g4 g5 g6 p0 p1 hp (m1 - a.f0.f1).toNat k (a.f0.f1 + 1) _ r (by show a.f0.f1 + 1 + ((m1 - a.f0.f1).toNat : Int) = m1 + 1; omega) (by omega) h
      rw [cnt_put, show a.f0.f1 + 1 - 1 = a.f0.f1 by omega] at hc
      simp only [gT] at hc
      rw [hc]
      have hfirst : (a.f1 ≤ m2 - 1 ∧ inB p0 p1 ⟨⟨a.f0.f0, a.f0.f1⟩, a.f1, m2 - 1⟩ = true) ↔ (a.f1 ≤ p1 ∧ p1 ≤ m2 - 1 ∧ top p0 a.f0.f1 = top a.f0.f0 a.f0.f1) := by
        by_cases hc : a.f1 ≤ m2 - 1
        · have hR : RightR (⟨⟨a.f0.f0, a.f0.f1⟩, a.f1, m2 - 1⟩ : S26) := (rightR_iff _).2 ⟨ha1.1, ha1.2.1, hc, by show m2 - 1 ≤ 32; omega⟩
          rw [inB_iff, inP_iff _ hR p0 p1]
          simp only [hc, hp, true_and]
        · exact ⟨fun h => absurd h.1 hc, fun h => absurd (Int.le_trans h.1 h.2.1) hc⟩
      have hfirst' := hfirst
      have e0 : cnt p0 p1 ([] : List S26) = 0 := rfl
      have hA : inB p0 p1 a = true ↔ a.f1 ≤ p1 ∧ p1 ≤ a.f2 ∧ top p0 a.f0.f1 = top a.f0.f0 a.f0.f1 := by
        rw [inB_iff, ia]
        simp only [hp, true_and]
      have hAB : (inB p0 p1 a = true ∧ inB p0 p1 b = true) ↔ m2 ≤ p1 ∧ p1 ≤ m3 ∧ top p0 m1 = top m0 m1 := by
        rw [inB_iff, inB_iff, gB]
        simp only [hp, true_and]
      rw [ite_iff hfirst, e0, Nat.zero_add]
      clear hfirst hfirst' hc h gB ia hm hok hno ha2 hm2 g1 hp gT e0
      generalize top p0 a.f0.f1 = t1 at *
      generalize top a.f0.f0 a.f0.f1 = t2 at *
      generalize top p0 m1 = t3 at *
      generalize top m0 m1 = t4 at *
      generalize inB p0 p1 a = ba at *
      generalize inB p0 p1 b = bb at *
      obtain ⟨_, ha1⟩ := ha1
      cases ba <;> cases bb <;> simp only [Bool.false_eq_true, Bool.true_eq_false, and_true, and_false, true_and, false_and, true_iff, false_iff, if_true, if_false] at hA hAB ⊢ <;> (repeat' split) <;> omega
  · rw [cnt_none p0 p1 hp, inB_none p0 p1 hp a, if_neg (by simp)]
end Go.Proofs.Ytgljfjjainlhgaa.PPfxTakes
