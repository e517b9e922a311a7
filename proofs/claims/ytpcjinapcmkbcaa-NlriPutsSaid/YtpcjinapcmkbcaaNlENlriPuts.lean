/- The document's Put is nlri.Put: plain lemmas. No conditions. -/
import Derived.Test.YtpcjinapcmkbcaaNlDNlriPuts
namespace Go.Proofs.Ytpcjinapcmkbcaa.PNlriPuts
open Go.RowKit Go.Proofs.YtpcjinapcmkbcaaW.PrintWords Go.Proofs.YtpcjinapcmkbcaaW.PrintLast Go.Proofs.YtpcjinapcmkbcaaW.PrintMore
set_option linter.unusedVariables false
set_option linter.unusedSimpArgs false
theorem refRight_eq {p : S34} (hg : GoodP p) (k : Nat) (hk : 33 ≤ k) : dragomanref03_Right.f k p.f0 p.f1 = some (right p) := by
  unfold dragomanref03_Right.f
  rw [refMask_eq _ _ k hk, mask_eq _ hg.1 hg.2]
  rfl
theorem refSize_l0 (a l : Int) (h0 : 0 ≤ l) (h1 : l ≤ 32) (d : Nat) : ∀ (k i : Nat), (i : Int) + d = (l + 7) / 8 → d < k → dragomanref23_Size.l0 k ((1 + i : Nat) : Int) ((8 * i : Nat) : Int) a l = some (1 + (l + 7) / 8) := by
  induction d with
  | zero =>
    intro k i hi hk
    obtain ⟨k, rfl⟩ : ∃ m, k = m + 1 := ⟨k - 1, by omega⟩
    simp only [dragomanref23_Size.l0]
    rw [if_neg (by omega)]
    congr 1
    omega
  | succ d ih =>
    intro k i hi hk
    obtain ⟨k, rfl⟩ : ∃ m, k = m + 1 := ⟨k - 1, by omega⟩
    simp only [dragomanref23_Size.l0]
    rw [if_pos (by omega), wrap64_id (by omega) (by omega), wrap64_id (by omega) (by omega)]
    have := ih k (i + 1) (by omega) (by omega)
    rw [show ((1 + i : Nat) : Int) + 1 = ((1 + (i + 1) : Nat) : Int) by omega, show ((8 * i : Nat) : Int) + 8 = ((8 * (i + 1) : Nat) : Int) by omega]
    exact this
theorem refSize_eq {p : S34} (hg : GoodP p) (k : Nat) (hk : 40 ≤ k) : dragomanref23_Size.f k p.f0 p.f1 = some (nsize p) := by
  unfold dragomanref23_Size.f nsize
  rw [refRight_eq hg k (by omega)]
  simp only [Option.bind_some]
  by_cases h : right p = true
  · have hr := right_len h
    rw [if_pos h, if_pos h]
    exact refSize_l0 p.f0 p.f1 hr.1 hr.2.1 ((p.f1 + 7) / 8).toNat k 0 (by omega) (by omega)
  · rw [if_neg h, if_neg h]
theorem quo_oct {a : Int} (h : 0 ≤ a) : quo4 a = oct4 a := by
  unfold quo4 oct4
  rw [Int.tdiv_eq_ediv_of_nonneg h, Int.tdiv_eq_ediv_of_nonneg h, Int.tdiv_eq_ediv_of_nonneg h, Int.tmod_eq_emod_of_nonneg h, Int.emod_emod_of_dvd a (Int.dvd_refl 256)]
theorem refPut_l0 (k : Nat) (hk : 40 ≤ k) : ∀ (l : List S34) (out : List Int), (∀ p ∈ l, GoodP p) → out.length + 5 * l.length < 999990 → dragomanref23_Put.l0 k l out = some (putL l out)
  | [], out, _, _ => rfl
  | p :: r, out, hg, ho => by
    have hgp := hg p List.mem_cons_self
    simp only [List.length_cons] at ho
    simp only [dragomanref23_Put.l0, putL]
    rw [refRight_eq hgp k (by omega), refSize_eq hgp k hk, quo_oct hgp.1]
    simp only [Option.bind_some]
    by_cases h : right p = true
    · have hr := right_len h
      have hn : nsize p = 1 + (p.f1 + 7) / 8 := by unfold nsize; rw [if_pos h]
      rw [if_pos h, if_pos h, hn, if_pos ⟨by omega, by omega, by omega⟩]
      rw [show out ++ [IntKind.u8.wrap p.f1] ++ (oct4 p.f0).take (1 + (p.f1 + 7) / 8 - 1).toNat = out ++ encP p by
        unfold encP; rw [show 1 + (p.f1 + 7) / 8 - 1 = (p.f1 + 7) / 8 by omega, List.append_assoc]]
      refine refPut_l0 k hk r _ (fun q hq => hg q (List.mem_cons_of_mem _ hq)) ?_
      have := (enc_len p h).2
      rw [List.length_append]
      omega
    · rw [if_neg h, if_neg h]
theorem refPut_eq (k : Nat) (hk : 40 ≤ k) (l : List S34) (hl : l.length ≤ 150000) (hg : ∀ p ∈ l, GoodP p) : dragomanref23_Put.f k l = some (putL l []) := by
  unfold dragomanref23_Put.f
  exact refPut_l0 k hk l [] hg (by simp; omega)
theorem putL_len : ∀ (l : List S34) (out : List Int), (putL l out).1.length ≤ out.length + 5 * l.length
  | [], out => by simp [putL]
  | p :: r, out => by
    simp only [putL]
    by_cases h : right p = true
    · rw [if_pos h]
      have := putL_len r (out ++ encP p)
      have := (enc_len p h).2
      simp only [List.length_append, List.length_cons] at *
      omega
    · rw [if_neg h]
      simp
end Go.Proofs.Ytpcjinapcmkbcaa.PNlriPuts
