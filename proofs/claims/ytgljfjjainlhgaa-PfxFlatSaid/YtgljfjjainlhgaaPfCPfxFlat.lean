/- The document's Minus is pfx's; Same tells true of a list and itself; the document's examples: plain lemmas. No conditions. -/
import Derived.Test.YtgljfjjainlhgaaPfMPfxFlat
namespace Go.Proofs.Ytgljfjjainlhgaa.PPfxFlat
open Go.RowKit Go.Proofs.YtgljfjjainlhgaaW.PrintWords Go.Proofs.YtgljfjjainlhgaaW.PrintLast Go.Proofs.YtgljfjjainlhgaaW.PrintMore
set_option linter.unusedVariables false
set_option linter.unusedSimpArgs false
theorem refMinus_l1 (out : List S26) (n : Int) (n0 : 1 ≤ n) (n1 : n ≤ 32) (a0 a1 a2 a3 m0 m1 m2 m3 : Int) (r : Option (List S26)) (e : Nat) : ∀ (k : Nat) (i : Nat), i + e = 32 → n ≤ i → e < k →
    dragomanref04_Minus.l1 (k - e) out n (2 ^ (32 - n).toNat) 32 a0 a1 a2 a3 m0 m1 m2 m3 = r → dragomanref04_Minus.l1 k out n (2 ^ ((i : Int) - n).toNat) i a0 a1 a2 a3 m0 m1 m2 m3 = r := by
  induction e with
  | zero =>
    intro k i hi hni hk h
    obtain rfl : i = 32 := by omega
    exact h
  | succ e ih =>
    intro k i hi hni hk h
    obtain ⟨k, rfl⟩ : ∃ m, k = m + 1 := ⟨k - 1, by omega⟩
    simp only [dragomanref04_Minus.l1]
    rw [if_pos (by omega)]
    have hp : (2 : Int) ^ ((i : Int) - n).toNat * 2 = 2 ^ (((i + 1 : Nat) : Int) - n).toNat := by
      rw [show (((i + 1 : Nat) : Int) - n).toNat = ((i : Int) - n).toNat + 1 by omega, Int.pow_succ]
    have hb : (2 : Int) ^ (((i + 1 : Nat) : Int) - n).toNat < 4294967296 := by
      have h1 : (2 : Nat) ^ (((i + 1 : Nat) : Int) - n).toNat < 2 ^ 32 := Nat.pow_lt_pow_right (by decide) (by omega)
      have e : ((2 ^ (((i + 1 : Nat) : Int) - n).toNat : Nat) : Int) = (2 : Int) ^ (((i + 1 : Nat) : Int) - n).toNat := by simp
      have h2 : (2 : Nat) ^ 32 = 4294967296 := by decide
      omega
    have hpos := pow_bd' (n := (((i + 1 : Nat) : Int) - n).toNat) (by omega)
    have e1 : 2 * 2 ^ ((i : Int) - n).toNat % 4294967296 = (2 : Int) ^ (((i + 1 : Nat) : Int) - n).toNat := by
      rw [Int.mul_comm, hp]
      exact Int.emod_eq_of_lt (by omega) hb
    have e2 : wrap64 ((i : Int) + 1) = ((i + 1 : Nat) : Int) := by rw [w64_id (by omega) (by omega)]; omega
    rw [e1, e2]
    exact ih k (i + 1) (by omega) (by omega) (by omega) (by rwa [show k + 1 - (e + 1) = k - e by omega] at h)
theorem turned_down {m q M : Int} (hM : 1 ≤ M) (q0 : 0 ≤ q - 1) (q1 : q * M ≤ m) (hm : m < 4294967296) : (q * M - M) % 4294967296 = (q - 1) * M := by
  have e2 : (q - 1) * M = q * M - M := by rw [Int.sub_mul, Int.one_mul]
  have h0 : 0 ≤ (q - 1) * M := Int.mul_nonneg q0 (by omega)
  rw [← e2]
  exact Int.emod_eq_of_lt h0 (by omega)
theorem turned_up {q M : Int} (hM : 1 ≤ M) (q0 : 0 ≤ q) (q1 : (q + 1) * M < 4294967296) : (q * M + M) % 4294967296 = (q + 1) * M := by
  have e2 : (q + 1) * M = q * M + M := by rw [Int.add_mul, Int.one_mul]
  have h0 : 0 ≤ (q + 1) * M := Int.mul_nonneg (by omega) (by omega)
  rw [← e2]
  exact Int.emod_eq_of_lt h0 q1
theorem turned_lt {m q M : Int} (hM : 1 ≤ M) (q0 : 0 ≤ q) (q1 : q * M ≤ m) (hm : m < 4294967296) : q < 4294967296 := by
  have : q * 1 ≤ q * M := Int.mul_le_mul_of_nonneg_left hM q0
  omega
theorem turned_div {q M : Int} (hM : 1 ≤ M) (q0 : 0 ≤ q) : (q * M).tdiv M = q := by
  rw [Int.tdiv_eq_ediv_of_nonneg (Int.mul_nonneg q0 (by omega)), Int.mul_ediv_cancel _ (by omega)]
theorem refMinus_l0 (a m : S26) (ha : RightR a) (hm : route_Mask.f m.f0.f0 m.f0.f1 = some (m.f0.f0, m.f0.f1)) (h1 : a.f0.f1 ≤ m.f0.f1) (h2 : m.f0.f1 ≤ m.f1) (h3 : m.f1 ≤ m.f2) (h4 : a.f1 ≤ m.f1) (h5 : m.f2 ≤ a.f2) (r : List S26) (d : Nat) :
    ∀ (K k : Nat) (n : Int) (out : List S26), n + d = m.f0.f1 + 1 → a.f0.f1 + 1 ≤ n → d < K → 40 * (d + 1) < k → pfx_Minus.l0 K a m out n = some r → dragomanref04_Minus.l0 k out n a.f0.f0 a.f0.f1 a.f1 a.f2 m.f0.f0 m.f0.f1 m.f1 m.f2 = some r := by
  have ha1 := (rightR_iff a).1 ha
  have ha2 := mask_fix ha1.1
  have hm2 := mask_fix hm
  induction d with
  | zero =>
    intro K k n out hn hn1 hK hk h
    obtain ⟨k, rfl⟩ : ∃ j, k = j + 1 := ⟨k - 1, by omega⟩
    obtain ⟨K, rfl⟩ : ∃ j, K = j + 1 := ⟨K - 1, by omega⟩
    simp only [pfx_Minus.l0] at h
    simp only [dragomanref04_Minus.l0]
    by_cases ho : out.length < 900000
    · rw [if_pos ho, if_neg (by omega), w64_id (by omega) (by omega)] at h
      rw [if_neg (by omega)]
      unfold putR at h
      by_cases hc : m.f2 < a.f2
      · rw [if_pos (by omega)] at h
        rw [if_pos hc, if_pos (by omega), w64_id (by omega) (by omega)]
        exact h
      · rw [if_neg (by omega)] at h
        rw [if_neg hc]
        exact h
    · rw [if_neg ho] at h
      cases h
  | succ d ih =>
    intro K k n out hn hn1 hK hk h
    obtain ⟨k, rfl⟩ : ∃ j, k = j + 1 := ⟨k - 1, by omega⟩
    obtain ⟨K, rfl⟩ : ∃ j, K = j + 1 := ⟨K - 1, by omega⟩
    simp only [pfx_Minus.l0] at h
    simp only [dragomanref04_Minus.l0]
    by_cases ho : out.length < 900000
    · rw [if_pos ho, if_pos (by omega), w64_id (x := 32 - n) (by omega) (by omega), if_pos (by omega), turned_val hm2.2.2.2.2.1 hm2.2.2.2.2.2.1 (by omega) (by omega)] at h
      simp only [Option.bind_some] at h
      rw [w64_id (x := n + 1) (by omega) (by omega)] at h
      rw [if_pos (by omega)]
      obtain ⟨nn, rfl⟩ := Int.eq_ofNat_of_zero_le (show 0 ≤ n by omega)
      have hl1 := refMinus_l1 out nn (by omega) (by omega) a.f0.f0 a.f0.f1 a.f1 a.f2 m.f0.f0 m.f0.f1 m.f1 m.f2 (some r) (32 - nn) k nn (by omega) (by omega) (by omega)
      rw [show ((nn : Int) - nn).toNat = 0 by omega] at hl1
      refine hl1 ?_
      clear hl1
      have hkk : 40 * (d + 1) < k - (32 - nn) - 1 := by omega
      obtain ⟨j, hj⟩ : ∃ j, k - (32 - nn) = j + 1 := ⟨k - (32 - nn) - 1, by omega⟩
      rw [hj] at hkk ⊢
      simp only [Nat.add_sub_cancel] at hkk
      simp only [dragomanref04_Minus.l1]
      rw [if_neg (by decide), cut_val _ (by omega) hm2.2.2.2.2.1 hm2.2.2.2.2.2.1 (by omega) (by omega)]
      simp only [Option.bind_some]
      have hs : (32 - (nn : Int)).toNat < 32 := by omega
      have s1 : ((nn : Int) + 1) + (d : Int) = m.f0.f1 + 1 := by omega
      have s2 : a.f0.f1 + 1 ≤ (nn : Int) + 1 := by omega
      have s3 : d < K := by omega
      have s4 : out.length < 4398046511104 := by omega
      have hm0 := hm2.2.2.2.2.2.1
      obtain ⟨q0, q1, q2, q3, _⟩ := turned_bd hs hm2.2.2.2.2.1 hm2.2.2.2.2.2.1
      have hp := (pow_bd' (n := (32 - (nn : Int)).toNat) (by omega)).1
      have hout : (putR out ((if m.f0.f0 / 2 ^ (32 - (nn : Int)).toNat % 2 = 1 then m.f0.f0 / 2 ^ (32 - (nn : Int)).toNat - 1 else m.f0.f0 / 2 ^ (32 - (nn : Int)).toNat + 1) * 2 ^ (32 - (nn : Int)).toNat) nn m.f1 m.f2) = out ++ [⟨⟨(if m.f0.f0 / 2 ^ (32 - (nn : Int)).toNat % 2 = 1 then m.f0.f0 / 2 ^ (32 - (nn : Int)).toNat - 1 else m.f0.f0 / 2 ^ (32 - (nn : Int)).toNat + 1) * 2 ^ (32 - (nn : Int)).toNat, nn⟩, m.f1, m.f2⟩] := if_pos h3
      rw [hout] at h
      clear hout
      have hnw : wrap64 ((nn : Int) + 1) = (nn : Int) + 1 := w64_id (by omega) (by omega)
      generalize hM : (2 : Int) ^ (32 - (nn : Int)).toNat = M at *
      generalize hq : m.f0.f0 / M = q at *
      have hne : ¬ M = 0 := by clear ih h; omega
      rw [turned_div hp q0, if_neg hne, Int.emod_eq_of_lt q0 (turned_lt hp q0 q1 hm0), hnw]
      by_cases hodd : q % 2 = 1
      · rw [if_pos hodd] at h
        rw [if_pos hodd, if_pos s4, turned_down hp (q2 hodd) q1 hm0]
        exact ih K j _ _ s1 s2 s3 hkk h
      · rw [if_neg hodd] at h
        rw [if_neg hodd, if_pos s4, turned_up hp q0 (q3 hodd)]
        exact ih K j _ _ s1 s2 s3 hkk h
    · rw [if_neg ho] at h
      cases h
/-- The document's Minus tells what pfx.Minus tells. -/
theorem refMinus_eq (k : Nat) (hk : 2000 ≤ k) (a b : S26) (r : List S26) (h : pfx_Minus.f k a.f0.f0 a.f0.f1 a.f1 a.f2 b.f0.f0 b.f0.f1 b.f1 b.f2 = some r) : dragomanref04_Minus.f k a.f0.f0 a.f0.f1 a.f1 a.f2 b.f0.f0 b.f0.f1 b.f1 b.f2 = some r := by
  unfold pfx_Minus.f at h
  unfold dragomanref04_Minus.f
  rw [refR_eq _ (by omega), refMeet_eq k (by omega) a b]
  obtain ⟨ba, hba⟩ := right_total a
  rw [hba] at h ⊢
  simp only [Option.bind_some] at h ⊢
  cases ba with
  | false => exact h
  | true =>
    rw [if_pos rfl] at h ⊢
    obtain ⟨mt, hm, h⟩ := Option.bind_eq_some_iff.mp h
    rw [hm]
    simp only [Option.bind_some]
    obtain ⟨bb, hbb⟩ := right_total b
    obtain ⟨m0, m1, m2, m3, ok⟩ := mt
    cases ok with
    | false => exact h
    | true =>
      simp only [if_true] at h ⊢
      have hbR : RightR b := by
        cases bb with
        | true => exact hbb
        | false =>
          exfalso
          obtain ⟨j, rfl⟩ : ∃ j, k = j + 1 := ⟨k - 1, by omega⟩
          unfold pfx_Meet.f at hm
          rw [hba, hbb] at hm
          simp [pfx_Meet.j0] at hm
      obtain ⟨n0, n1, n2, n3, ok2, hm', hok⟩ := meet_total k (by omega) a b hba hbR
      rw [hm] at hm'
      cases hm'
      obtain ⟨g1, g2, g3, g4, g5, g6⟩ := hok rfl
      have ha1 := (rightR_iff a).1 hba
      have ha2 := mask_fix ha1.1
      have hm2 := mask_fix g1
      have hw : wrap64 (m2 - 1) = m2 - 1 := w64_id (by omega) (by omega)
      have hw2 : wrap64 (a.f0.f1 + 1) = a.f0.f1 + 1 := w64_id (by omega) (by omega)
      rw [hw, hw2] at h
      obtain ⟨j, rfl⟩ : ∃ j, k = j + 1 := ⟨k - 1, by omega⟩
      have key := fun out => refMinus_l0 a ⟨⟨m0, m1⟩, m2, m3⟩ hba g1 g2 g3 g4 g5 g6 r (m1 - a.f0.f1).toNat (j + 1) j (a.f0.f1 + 1) out (by show a.f0.f1 + 1 + ((m1 - a.f0.f1).toNat : Int) = m1 + 1; omega) (by omega) (by omega) (by omega)
      by_cases hc : a.f1 < m2
      · have e : putR ([] : List S26) a.f0.f0 a.f0.f1 a.f1 (m2 - 1) = [] ++ [⟨⟨a.f0.f0, a.f0.f1⟩, a.f1, m2 - 1⟩] := if_pos (by omega)
        rw [e] at h
        rw [if_pos hc, if_pos (by decide), hw]
        simp only [dragomanref04_Minus.j0]
        rw [hw2]
        exact key _ h
      · have e : putR ([] : List S26) a.f0.f0 a.f0.f1 a.f1 (m2 - 1) = [] := if_neg (by omega)
        rw [e] at h
        rw [if_neg hc]
        simp only [dragomanref04_Minus.j0]
        rw [hw2]
        exact key _ h
end Go.Proofs.Ytgljfjjainlhgaa.PPfxFlat
