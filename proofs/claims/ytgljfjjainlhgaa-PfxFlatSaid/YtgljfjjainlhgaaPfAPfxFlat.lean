/- What Mask, begins and a turned bit come to, in numbers: plain lemmas. No conditions. -/
import Derived.Test.YtgljfjjainlhgaaQPfxFlat
namespace Go.Proofs.Ytgljfjjainlhgaa.PPfxFlat
open Go.RowKit Go.Proofs.YtgljfjjainlhgaaW.PrintWords Go.Proofs.YtgljfjjainlhgaaW.PrintLast Go.Proofs.YtgljfjjainlhgaaW.PrintMore
set_option linter.unusedVariables false
set_option linter.unusedSimpArgs false
theorem xor_nat {a b : Nat} (ha : a < 4294967296) (hb : b < 4294967296) : Go.bits .xor .u32 a b = ((a ^^^ b : Nat) : Int) := by
  have ha' : a % 2 ^ IntKind.u32.bits = a := Nat.mod_eq_of_lt ha
  have hb' : b % 2 ^ IntKind.u32.bits = b := Nat.mod_eq_of_lt hb
  have hx : a ^^^ b < 2 ^ 32 := Nat.xor_lt_two_pow ha hb
  simp only [Go.bits, BitVec.ofInt_natCast, BitVec.toNat_xor, BitVec.toNat_ofNat, ha', hb']
  rw [IntKind.wrap_u32]
  omega
theorem xor_zero {x y : Nat} : x ^^^ y = 0 ↔ x = y := by
  constructor
  · intro h
    have : (x ^^^ y) ^^^ y = 0 ^^^ y := by rw [h]
    rwa [Nat.xor_assoc, Nat.xor_self, Nat.xor_zero, Nat.zero_xor] at this
  · rintro rfl
    exact Nat.xor_self _
theorem xor_div (a b s : Nat) : (a ^^^ b) / 2 ^ s = (a / 2 ^ s) ^^^ (b / 2 ^ s) := by
  rw [← Nat.shiftRight_eq_div_pow, ← Nat.shiftRight_eq_div_pow, ← Nat.shiftRight_eq_div_pow, Nat.shiftRight_xor_distrib]
theorem xor_one (q : Nat) : q ^^^ 1 = if q % 2 = 1 then q - 1 else q + 1 := by
  have h1 : (q ^^^ 1) / 2 = q / 2 := by
    have := xor_div q 1 1
    simpa using this
  have h2 : (q ^^^ 1) % 2 = (q + 1) % 2 := by
    have := Nat.testBit_xor q 1 0
    rw [Nat.testBit_zero, Nat.testBit_zero, Nat.testBit_zero] at this
    rcases Nat.mod_two_eq_zero_or_one q with h | h <;> rcases Nat.mod_two_eq_zero_or_one (q ^^^ 1) with h' | h' <;> rw [h, h'] at this <;> simp at this <;> omega
  split <;> omega
theorem cast_div (a s : Nat) : ((a / 2 ^ s : Nat) : Int) = (a : Int) / 2 ^ s := by simp
/-- begins, by division. -/
theorem begins_eq {a p l : Int} (a0 : 0 ≤ a) (a1 : a < 4294967296) (p0 : 0 ≤ p) (p1 : p < 4294967296) (l0 : 0 ≤ l) (l1 : l ≤ 32) : pfx_begins.f a p l = some (decide (a / 2 ^ (32 - l).toNat = p / 2 ^ (32 - l).toNat)) := by
  obtain ⟨a, rfl⟩ := Int.eq_ofNat_of_zero_le a0
  obtain ⟨p, rfl⟩ := Int.eq_ofNat_of_zero_le p0
  unfold pfx_begins.f
  have hx : a ^^^ p < 2 ^ 32 := Nat.xor_lt_two_pow (by omega) (by omega)
  rw [w64_id (by omega) (by omega), if_pos (by omega), xor_nat (by omega) (by omega), wu64]
  generalize hs : (32 - l).toNat = s
  have e1 : (((a ^^^ p : Nat)) : Int) % 18446744073709551616 = ((a ^^^ p : Nat) : Int) := by omega
  rw [e1]
  unfold shr
  rw [hs, show min s IntKind.u64.bits = s from Nat.min_eq_left (by have : IntKind.u64.bits = 64 := rfl; omega), ← cast_div, ← cast_div, ← cast_div, xor_div]
  congr 1
  rw [Bool.eq_iff_iff, beq_iff_eq, decide_eq_true_iff]
  have := @xor_zero (a / 2 ^ s) (p / 2 ^ s)
  omega
/-- What Mask tells of an address. -/
theorem mask_val {a l : Int} (a0 : 0 ≤ a) (a1 : a < 4294967296) (l0 : 0 ≤ l) (l1 : l ≤ 32) : route_Mask.f a l = some (a / 2 ^ (32 - l).toNat * 2 ^ (32 - l).toNat, l) := by
  unfold route_Mask.f
  rw [mxmn_id l0 l1]
  have hp := pow_bd' (n := (32 - l).toNat) (by omega)
  have e1 : IntKind.u64.wrap a = a := by rw [wu64]; omega
  have h1 : 0 ≤ a / 2 ^ (32 - l).toNat * 2 ^ (32 - l).toNat := Int.mul_nonneg (Int.ediv_nonneg a0 (by omega)) (by omega)
  have h2 : a / 2 ^ (32 - l).toNat * 2 ^ (32 - l).toNat ≤ a := Int.ediv_mul_le _ (by omega)
  rw [e1, wu64, Int.emod_eq_of_lt h1 (by omega), Int.emod_eq_of_lt h1 (by omega)]
/-- The bit turned. -/
theorem turn_val {m : Int} {s : Nat} (hs : s < 32) (m0 : 0 ≤ m) (m1 : m < 4294967296) : 0 ≤ Go.bits .xor .u32 m (2 ^ s) ∧ Go.bits .xor .u32 m (2 ^ s) < 4294967296 ∧ Go.bits .xor .u32 m (2 ^ s) / 2 ^ s = if m / 2 ^ s % 2 = 1 then m / 2 ^ s - 1 else m / 2 ^ s + 1 := by
  obtain ⟨m, rfl⟩ := Int.eq_ofNat_of_zero_le m0
  have hlt : (2 : Nat) ^ s < 4294967296 := by
    have : (2 : Nat) ^ s < 2 ^ 32 := Nat.pow_lt_pow_right (by decide) hs
    simpa using this
  have hx : m ^^^ 2 ^ s < 2 ^ 32 := Nat.xor_lt_two_pow (by omega) (by simpa using hlt)
  have e : (2 : Int) ^ s = ((2 ^ s : Nat) : Int) := by simp
  have hpos : 0 < 2 ^ s := Nat.two_pow_pos s
  rw [e, xor_nat (by omega) hlt]
  refine ⟨by omega, by omega, ?_⟩
  have h1 := xor_div m (2 ^ s) s
  rw [Nat.div_self hpos, xor_one] at h1
  have c1 : (((m ^^^ 2 ^ s : Nat)) : Int) / ((2 ^ s : Nat) : Int) = (((m ^^^ 2 ^ s) / 2 ^ s : Nat) : Int) := by simp
  have c2 : (m : Int) / ((2 ^ s : Nat) : Int) = ((m / 2 ^ s : Nat) : Int) := by simp
  rw [c1, c2, h1]
  generalize m / 2 ^ s = q
  split <;> split <;> omega
theorem turned_val {m n : Int} (m0 : 0 ≤ m) (m1 : m < 4294967296) (n0 : 1 ≤ n) (n1 : n ≤ 32) :
    route_Mask.f (Go.bits .xor .u32 m (IntKind.u32.wrap (2 ^ min (32 - n).toNat 32))) n = some ((if m / 2 ^ (32 - n).toNat % 2 = 1 then m / 2 ^ (32 - n).toNat - 1 else m / 2 ^ (32 - n).toNat + 1) * 2 ^ (32 - n).toNat, n) := by
  have hs : (32 - n).toNat < 32 := by omega
  rw [show min (32 - n).toNat 32 = (32 - n).toNat by omega]
  have hlt : (2 : Int) ^ (32 - n).toNat < 4294967296 := by
    have h1 : (2 : Nat) ^ (32 - n).toNat < 2 ^ 32 := Nat.pow_lt_pow_right (by decide) hs
    have e : ((2 ^ (32 - n).toNat : Nat) : Int) = (2 : Int) ^ (32 - n).toNat := by simp
    have h2 : (2 : Nat) ^ 32 = 4294967296 := by decide
    omega
  have hp := pow_bd' (n := (32 - n).toNat) (by omega)
  have e1 : IntKind.u32.wrap (2 ^ (32 - n).toNat) = 2 ^ (32 - n).toNat := by rw [IntKind.wrap_u32]; exact Int.emod_eq_of_lt (by omega) hlt
  rw [e1]
  obtain ⟨t0, t1, t2⟩ := turn_val hs m0 m1
  rw [mask_val t0 t1 (by omega) n1, t2]
/-- The bound of a turned bit's place. -/
theorem turned_bd {m : Int} {s : Nat} (hs : s < 32) (m0 : 0 ≤ m) (m1 : m < 4294967296) : 0 ≤ m / 2 ^ s ∧ m / 2 ^ s * 2 ^ s ≤ m ∧ (m / 2 ^ s % 2 = 1 → 0 ≤ m / 2 ^ s - 1) ∧ (¬ m / 2 ^ s % 2 = 1 → (m / 2 ^ s + 1) * 2 ^ s < 4294967296) ∧ m / 2 ^ s * 2 ^ s + 2 ^ s ≤ 4294967296 := by
  have hp := pow_bd' (n := s) (by omega)
  have h0 : 0 ≤ m / 2 ^ s := Int.ediv_nonneg m0 (by omega)
  have h1 : m / 2 ^ s * 2 ^ s ≤ m := Int.ediv_mul_le _ (by omega)
  obtain ⟨t0, t1, t2⟩ := turn_val hs m0 m1
  refine ⟨h0, h1, fun h => by omega, fun h => ?_, ?_⟩
  · rw [if_neg h] at t2
    rw [← t2]
    have := Int.ediv_mul_le (Go.bits .xor .u32 m (2 ^ s)) (show (2 : Int) ^ s ≠ 0 by omega)
    omega
  · have e : (4294967296 : Int) = 2 ^ (32 - s) * 2 ^ s := by rw [← Int.pow_add, show 32 - s + s = 32 by omega]; rfl
    generalize (2 : Int) ^ (32 - s) = Q at e
    generalize hq : m / 2 ^ s = q at h0 h1 ⊢
    generalize (2 : Int) ^ s = M at *
    have hlt : q < Q := by
      have : q * M < Q * M := by omega
      exact Int.lt_of_mul_lt_mul_right this (by omega)
    have : (q + 1) * M ≤ Q * M := Int.mul_le_mul_of_nonneg_right (by omega) (by omega)
    rw [Int.add_mul, ← e] at this
    omega
end Go.Proofs.Ytgljfjjainlhgaa.PPfxFlat
