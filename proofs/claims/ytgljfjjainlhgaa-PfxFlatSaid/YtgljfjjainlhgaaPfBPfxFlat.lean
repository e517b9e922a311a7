/- The document's Mask, Right and cut: plain lemmas. No conditions. -/
import Derived.Test.YtgljfjjainlhgaaPfAPfxFlat
namespace Go.Proofs.Ytgljfjjainlhgaa.PPfxFlat
open Go.RowKit Go.Proofs.YtgljfjjainlhgaaW.PrintWords Go.Proofs.YtgljfjjainlhgaaW.PrintLast Go.Proofs.YtgljfjjainlhgaaW.PrintMore
set_option linter.unusedVariables false
set_option linter.unusedSimpArgs false
/-- The document's Mask, from a place on. -/
theorem refMask_from (a l : Int) (n : Int) (hn0 : 0 ≤ n) (hn : n ≤ 32) (d : Nat) : ∀ (k : Nat) (i : Nat), i + d = 32 → n ≤ i → d < k →
    dragomanref03_Mask.l0 k n (2 ^ ((i : Int) - n).toNat) i a l = some ((IntKind.u64.wrap ((IntKind.u64.wrap a / 2 ^ (32 - n).toNat) * 2 ^ (32 - n).toNat)) % 4294967296, n) := by
  induction d with
  | zero =>
    intro k i hi hni hk
    obtain ⟨k, rfl⟩ : ∃ m, k = m + 1 := ⟨k - 1, by omega⟩
    obtain rfl : i = 32 := by omega
    simp only [dragomanref03_Mask.l0]
    have hp := pow_bd' (n := (32 - n).toNat) (by omega)
    have e : (((32 : Nat) : Int) - n).toNat = (32 - n).toNat := rfl
    rw [if_neg (by omega), e, if_neg (by omega)]
    have hu : 0 ≤ IntKind.u64.wrap a ∧ IntKind.u64.wrap a < 18446744073709551616 := by rw [wu64]; omega
    have hd : IntKind.u64.wrap (Int.tdiv (IntKind.u64.wrap a) (2 ^ (32 - n).toNat)) = IntKind.u64.wrap a / 2 ^ (32 - n).toNat := by
      rw [Int.tdiv_eq_ediv_of_nonneg hu.1, wu64 (_ / _)]
      have h1 : 0 ≤ IntKind.u64.wrap a / 2 ^ (32 - n).toNat := Int.ediv_nonneg hu.1 (by omega)
      have h2 : IntKind.u64.wrap a / 2 ^ (32 - n).toNat ≤ IntKind.u64.wrap a := Int.ediv_le_self _ hu.1
      omega
    rw [hd]
  | succ d ih =>
    intro k i hi hni hk
    obtain ⟨k, rfl⟩ : ∃ m, k = m + 1 := ⟨k - 1, by omega⟩
    simp only [dragomanref03_Mask.l0]
    rw [if_pos (by omega)]
    have hp := pow_bd' (n := ((i : Int) - n).toNat) (by omega)
    have h1 : IntKind.u64.wrap (2 * 2 ^ ((i : Int) - n).toNat) = 2 ^ (((i + 1 : Nat) : Int) - n).toNat := by
      rw [show (((i + 1 : Nat) : Int) - n).toNat = ((i : Int) - n).toNat + 1 by omega, Int.pow_succ, wu64]
      omega
    have h2 : wrap64 ((i : Int) + 1) = ((i + 1 : Nat) : Int) := by rw [w64_id (by omega) (by omega)]; omega
    rw [h1, h2]
    exact ih k (i + 1) (by omega) (by omega) (by omega)
theorem refMask_eq (a l : Int) (k : Nat) (hk : 33 ≤ k) : dragomanref03_Mask.f k a l = route_Mask.f a l := by
  have hn := mxmn l
  unfold dragomanref03_Mask.f route_Mask.f
  generalize mx 0 (mn l 32) = n at hn ⊢
  obtain ⟨m, rfl⟩ := Int.eq_ofNat_of_zero_le hn.1
  have := refMask_from a l m hn.1 hn.2 (32 - m) k m (by omega) (by omega) (by omega)
  simpa using this
theorem refR_eq (k : Nat) (hk : 33 ≤ k) (a0 a1 a2 a3 : Int) : dragomanref04_Right.f k a0 a1 a2 a3 = pfx_Right.f a0 a1 a2 a3 := by
  unfold dragomanref04_Right.f pfx_Right.f dragomanref03_Right.f
  rw [refMask_eq _ _ k hk]
  obtain ⟨r, n, e, _⟩ := mask_props a0 a1
  rw [e]
  rfl
theorem cut_val (k : Nat) (hk : 33 ≤ k) {a l : Int} (a0 : 0 ≤ a) (a1 : a < 4294967296) (l0 : 0 ≤ l) (l1 : l ≤ 32) : dragomanref04_cut.f k a l = some (a / 2 ^ (32 - l).toNat * 2 ^ (32 - l).toNat) := by
  unfold dragomanref04_cut.f
  rw [refMask_eq _ _ k hk, mask_val a0 a1 l0 l1]
  rfl
theorem div_mul_self {b : Int} {s : Nat} (hm : b % 2 ^ s = 0) : b / 2 ^ s * 2 ^ s = b := by
  have := Int.mul_ediv_add_emod b (2 ^ s)
  rw [hm, Int.mul_comm] at this
  omega
theorem cut_iff {a b : Int} {s : Nat} (hs : s ≤ 32) (hm : b % 2 ^ s = 0) : a / 2 ^ s * 2 ^ s = b ↔ a / 2 ^ s = b / 2 ^ s := by
  have hp := pow_bd' hs
  have hb := div_mul_self hm
  constructor
  · intro h
    rw [← h, Int.mul_ediv_cancel _ (by omega)]
  · intro h
    rw [h]
    exact hb
end Go.Proofs.Ytgljfjjainlhgaa.PPfxFlat
