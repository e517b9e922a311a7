/- A prefix is in what Minus leaves, in one range of it alone, just if it is in the first range and not in the second; and in Meet just if it is in both: the plain statement behind the row. No conditions. -/
import Derived.Test.YtgljfjjainlhgaaPfSPfxParts
namespace Go.Proofs.Ytgljfjjainlhgaa.Pure
open Go.RowKit Go.Proofs.Ytgljfjjainlhgaa.PPfxParts Go.Proofs.YtgljfjjainlhgaaW.PrintWords Go.Proofs.YtgljfjjainlhgaaW.PrintLast
theorem cntF_val (p0 p1 : Int) : ∀ (l : List S26) (n : Nat), n + l.length < 1000000 → cntF p0 p1 l n = some ((n + cnt p0 p1 l : Nat) : Int)
  | [], n, _ => rfl
  | x :: r, n, h => by
    simp only [List.length_cons] at h
    unfold cntF
    rw [in_inB]
    simp only [Option.bind_some]
    have hc : cnt p0 p1 (x :: r) = cnt p0 p1 r + if inB p0 p1 x = true then 1 else 0 := by
      unfold cnt
      rw [List.countP_cons]
    cases hI : inB p0 p1 x with
    | true =>
      rw [hI, if_pos rfl] at hc
      rw [if_pos rfl, show wrap64 ((n : Int) + 1) = ((n + 1 : Nat) : Int) by rw [w64_id (by omega) (by omega)]; omega, cntF_val p0 p1 r (n + 1) (by omega), hc]
      congr 1
      omega
    | false =>
      rw [hI, if_neg (by simp)] at hc
      rw [if_neg (by simp), cntF_val p0 p1 r n (by omega), hc]
      rfl
theorem inB_not (x : S26) (p0 p1 : Int) (h : pfx_Right.f x.f0.f0 x.f0.f1 x.f1 x.f2 = some false) : inB p0 p1 x = false := by
  rw [← Bool.not_eq_true]
  intro h2
  have := ((inB_iff x p0 p1).1 h2).1
  unfold RightR at this
  rw [h] at this
  simp at this
theorem PfxParts : dragomanlaw04_PfxParts.Pure := by
  intro a b p _ _ _
  refine ⟨300, ?_⟩
  obtain ⟨p0, p1⟩ := p
  unfold dragomanlaw04_PfxParts.f
  rw [alive_ok _ (by omega), in_inB a p0 p1, in_inB b p0 p1]
  simp only [Option.bind_some, if_true]
  obtain ⟨ba, hba⟩ := right_total a
  obtain ⟨bb, hbb⟩ := right_total b
  have im : ∀ m0 m1 m2 m3, pfx_In.f m0 m1 m2 m3 p0 p1 = some (inB p0 p1 ⟨⟨m0, m1⟩, m2, m3⟩) := fun m0 m1 m2 m3 => in_inB ⟨⟨m0, m1⟩, m2, m3⟩ p0 p1
  cases ba with
  | false =>
    have h1 : pfx_Minus.f 300 a.f0.f0 a.f0.f1 a.f1 a.f2 b.f0.f0 b.f0.f1 b.f1 b.f2 = some [] := by
      unfold pfx_Minus.f
      rw [hba]
      rfl
    have h2 : pfx_Meet.f 300 a.f0.f0 a.f0.f1 a.f1 a.f2 b.f0.f0 b.f0.f1 b.f1 b.f2 = some (0, 0, 0, 0, false) := by
      unfold pfx_Meet.f
      rw [hba]
      rfl
    rw [h1, h2]
    simp only [Option.bind_some, cntF, im, inB_not a p0 p1 hba]
    rfl
  | true =>
    cases bb with
    | false =>
      have h2 : pfx_Meet.f 300 a.f0.f0 a.f0.f1 a.f1 a.f2 b.f0.f0 b.f0.f1 b.f1 b.f2 = some (0, 0, 0, 0, false) := by
        unfold pfx_Meet.f
        rw [hba, hbb]
        rfl
      have h1 : pfx_Minus.f 300 a.f0.f0 a.f0.f1 a.f1 a.f2 b.f0.f0 b.f0.f1 b.f1 b.f2 = some [a] := by
        unfold pfx_Minus.f
        rw [hba, h2]
        rfl
      rw [h1, h2]
      have hc := cntF_val p0 p1 [a] 0 (by simp)
      simp only [Option.bind_some]
      rw [show ((0 : Nat) : Int) = 0 from rfl] at hc
      rw [hc]
      simp only [Option.bind_some, im, inB_not b p0 p1 hbb, cnt_one]
      cases inB p0 p1 a <;> rfl
    | true =>
      have ha : RightR a := hba
      have hb : RightR b := hbb
      obtain ⟨l, hl, _, hll⟩ := minus_total 300 (by omega) a b ha hb
      have hsem := minus_sem 300 (by omega) a b ha hb l hl p0 p1
      obtain ⟨m0, m1, m2, m3, ok, hm, hok, hno⟩ := meet_sem 300 (by omega) a b ha hb
      rw [hl, hm]
      have hc := cntF_val p0 p1 l 0 (by omega)
      rw [show ((0 : Nat) : Int) = 0 from rfl] at hc
      simp only [Option.bind_some]
      rw [hc]
      simp only [Option.bind_some, im]
      rw [hsem]
      have ha1 := (rightR_iff a).1 ha
      cases ok with
      | false =>
        have hn := hno rfl p0 p1
        rw [← inB_iff, ← inB_iff] at hn
        revert hn
        cases inB p0 p1 a <;> cases inB p0 p1 b <;> simp [partsV]
      | true =>
        obtain ⟨⟨g1, g2, g3, g4, g5, g6⟩, gT, gB⟩ := hok rfl
        have hR : RightR (⟨⟨m0, m1⟩, m2, m3⟩ : S26) := (rightR_iff _).2 ⟨g1, g3, g4, by show m3 ≤ 32; omega⟩
        have hmm : inB p0 p1 ⟨⟨m0, m1⟩, m2, m3⟩ = true ↔ inB p0 p1 a = true ∧ inB p0 p1 b = true := by
          rw [inB_iff, inB_iff, inB_iff, inP_iff _ hR, gB p0 p1]
        revert hmm
        cases inB p0 p1 a <;> cases inB p0 p1 b <;> cases inB p0 p1 ⟨⟨m0, m1⟩, m2, m3⟩ <;> simp [partsV]
end Go.Proofs.Ytgljfjjainlhgaa.Pure
