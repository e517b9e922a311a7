/- Plain lemmas over the printed functions: numbers, bytes of an address, that a list is the same as itself. No conditions. -/
import Derived.Test.YtpcjinapcmkbcaaQNlriBack
namespace Go.Proofs.Ytpcjinapcmkbcaa.PNlriBack
open Go.RowKit Go.Proofs.YtpcjinapcmkbcaaW.PrintWords Go.Proofs.YtpcjinapcmkbcaaW.PrintLast Go.Proofs.YtpcjinapcmkbcaaW.PrintMore
set_option linter.unusedVariables false
set_option linter.unusedSimpArgs false

theorem wrap64_id {x : Int} (h0 : -9223372036854775808 ≤ x) (h1 : x ≤ 9223372036854775807) : wrap64 x = x := by unfold wrap64; omega
theorem wrapu64 (x : Int) : IntKind.u64.wrap x = x % 18446744073709551616 := by simp [IntKind.wrap, IntKind.bits, IntKind.signed]
theorem mx_mn (l : Int) : 0 ≤ mx 0 (mn l 32) ∧ mx 0 (mn l 32) ≤ 32 := by unfold mx mn; split <;> split <;> omega
theorem pow_bd {n : Nat} (h : n ≤ 32) : 1 ≤ (2 : Int) ^ n ∧ (2 : Int) ^ n ≤ 4294967296 := by
  have h1 : (2 : Nat) ^ n ≤ 2 ^ 32 := Nat.pow_le_pow_right (by decide) h
  have h0 : 1 ≤ (2 : Nat) ^ n := Nat.one_le_two_pow
  have e : ((2 ^ n : Nat) : Int) = (2 : Int) ^ n := by simp
  have h2 : (2 : Nat) ^ 32 = 4294967296 := by decide
  omega

/-- The bytes of an address, added. -/
def sumIn : List Int → Nat → Int → Int
  | [], _, acc => acc
  | c :: r, i, acc => sumIn r (i + 1) (acc + c * 2 ^ (24 - 8 * i))
theorem wraps_u32' (n : Int) (h₀ : 0 ≤ n) (h₁ : n < 2 ^ 32) : IntKind.u32.wrap n = n := by rw [IntKind.wrap_u32]; omega
theorem or_add {i : Nat} (hi : i < 4) {acc c : Int} (h0 : 0 ≤ acc) (h1 : acc < 4294967296) (hm : acc % 2 ^ (32 - 8 * i) = 0) (c0 : 0 ≤ c) (c1 : c < 256) :
    Go.bits .or .u32 acc (c * 2 ^ (24 - 8 * i) % 4294967296) = acc + c * 2 ^ (24 - 8 * i) ∧ acc + c * 2 ^ (24 - 8 * i) < 4294967296 ∧ (acc + c * 2 ^ (24 - 8 * i)) % 2 ^ (24 - 8 * i) = 0 := by
  have key : ∀ s : Nat, s ≤ 24 → 32 - 8 * i = s + 8 → c * 2 ^ s % 4294967296 = c * 2 ^ s ∧ 0 ≤ c * 2 ^ s ∧ c * 2 ^ s < 2 ^ (s + 8) ∧ (acc + c * 2 ^ s < 4294967296) ∧ (acc + c * 2 ^ s) % 2 ^ s = 0 := by
    intro s hs he
    rw [he] at hm
    have hp := pow_bd (n := s) (by omega)
    have h8 : (2 : Int) ^ (s + 8) = 256 * 2 ^ s := by rw [Int.pow_add]; omega
    have hlt : c * 2 ^ s < 2 ^ (s + 8) := by
      rw [h8]
      exact Int.mul_lt_mul_of_pos_right c1 (by omega)
    have hp8 := pow_bd (n := s + 8) (by omega)
    have hn : 0 ≤ c * 2 ^ s := Int.mul_nonneg c0 (by omega)
    have hbd : acc + 2 ^ (s + 8) ≤ 4294967296 := by
      have e : (4294967296 : Int) = 2 ^ (32 - (s + 8)) * 2 ^ (s + 8) := by rw [← Int.pow_add, show 32 - (s + 8) + (s + 8) = 32 by omega]; rfl
      have hq := Int.mul_ediv_add_emod acc (2 ^ (s + 8))
      rw [hm] at hq
      generalize (2 : Int) ^ (s + 8) = M at *
      generalize (2 : Int) ^ (32 - (s + 8)) = Q at *
      have hlt2 : acc / M < Q := by
        have : M * (acc / M) < M * Q := by rw [Int.mul_comm M Q, ← e]; omega
        exact Int.lt_of_mul_lt_mul_left this (by omega)
      have : M * (acc / M + 1) ≤ M * Q := Int.mul_le_mul_of_nonneg_left (by omega) (by omega)
      rw [Int.mul_add, Int.mul_comm M Q, ← e] at this
      omega
    refine ⟨Int.emod_eq_of_lt hn (by omega), hn, hlt, by omega, ?_⟩
    rw [Int.add_mul_emod_self_right]
    have : (2 : Int) ^ s ∣ 2 ^ (s + 8) := ⟨256, by rw [h8]; omega⟩
    exact Int.emod_eq_zero_of_dvd (Int.dvd_trans this (Int.dvd_of_emod_eq_zero hm))
  obtain ⟨k1, k2, k3, k4, k5⟩ := key (24 - 8 * i) (by omega) (by omega)
  refine ⟨?_, k4, k5⟩
  rw [k1]
  refine bits_join .u32 32 (by decide) wraps_u32' (24 - 8 * i + 8) acc _ h0 ?_ h1 k2 k3 ?_
  · rw [show 24 - 8 * i + 8 = 32 - 8 * i by omega]; exact hm
  · have hp8 := pow_bd (n := 24 - 8 * i + 8) (by omega)
    have : (2 : Int) ^ 32 = 4294967296 := by decide
    omega
theorem orIn_sum : ∀ (bs : List Int) (i : Nat) (acc : Int), i + bs.length ≤ 4 → 0 ≤ acc → acc < 4294967296 → acc % 2 ^ (32 - 8 * i) = 0 → (∀ x ∈ bs, 0 ≤ x ∧ x < 256) → orIn bs i acc = sumIn bs i acc ∧ 0 ≤ sumIn bs i acc ∧ sumIn bs i acc < 4294967296
  | [], _, _, _, h0, h1, _, _ => ⟨rfl, h0, h1⟩
  | c :: r, i, acc, hl, h0, h1, hm, hb => by
    simp only [List.length_cons] at hl
    have hc := hb c List.mem_cons_self
    obtain ⟨k1, k2, k3⟩ := or_add (by omega) h0 h1 hm hc.1 hc.2
    have hp := pow_bd (n := 24 - 8 * i) (by omega)
    simp only [orIn, sumIn]
    rw [k1]
    exact orIn_sum r (i + 1) _ (by omega) (by have := Int.mul_nonneg hc.1 (show (0 : Int) ≤ 2 ^ (24 - 8 * i) by omega); omega) k2 (by rw [show 32 - 8 * (i + 1) = 24 - 8 * i by omega]; exact k3) (fun x hx => hb x (List.mem_cons_of_mem _ hx))

theorem rd_at {l : List Int} {i : Nat} (h : i < l.length) : rd l (i : Int) = l[i] := by
  unfold rd
  simp [List.getD_eq_getElem?_getD, List.getElem?_eq_getElem h]

theorem route_Mask_some (a l : Int) : ∃ m, route_Mask.f a l = some m := ⟨_, rfl⟩
theorem nread_some (m : Nat) : ∀ (b : List Int) (out : List S34), b.length < m → out.length + b.length < 1000000 → ∃ r, nread m b out = some r := by
  induction m with
  | zero => intro b out h; omega
  | succ m ih =>
    intro b out h ho
    cases b with
    | nil => exact ⟨_, rfl⟩
    | cons c r =>
      simp only [List.length_cons] at h ho
      simp only [nread]
      by_cases h32 : c > 32
      · rw [if_pos h32]; exact ⟨_, rfl⟩
      · rw [if_neg h32]
        by_cases hs : (r.length : Int) < (c + 7) / 8
        · rw [if_pos hs]; exact ⟨_, rfl⟩
        · rw [if_neg hs, if_pos (by omega)]
          obtain ⟨mm, hM⟩ := route_Mask_some (orIn (r.take ((c + 7) / 8).toNat) 0 0) c
          rw [hM]
          simp only [Option.bind_some]
          exact ih _ _ (by rw [List.length_drop]; omega) (by simp only [List.length_append, List.length_cons, List.length_nil, List.length_drop]; omega)

theorem nread_len (m : Nat) : ∀ (b : List Int) (out : List S34) (r : List S34 × Int), nread m b out = some r → r.1.length ≤ out.length + b.length := by
  induction m with
  | zero => intro b out r h; simp [nread] at h
  | succ m ih =>
    intro b out r h
    cases b with
    | nil =>
      obtain rfl : (out, 0) = r := by simpa [nread] using h
      simp
    | cons c t =>
      simp only [nread] at h
      by_cases h32 : c > 32
      · rw [if_pos h32] at h
        obtain rfl := Option.some.inj h
        simp
      · rw [if_neg h32] at h
        by_cases hs : (t.length : Int) < (c + 7) / 8
        · rw [if_pos hs] at h
          obtain rfl := Option.some.inj h
          simp
        · rw [if_neg hs] at h
          by_cases ho : out.length < 1000000
          · rw [if_pos ho] at h
            obtain ⟨mm, _, h⟩ := Option.bind_eq_some_iff.mp h
            have := ih _ _ r h
            simp only [List.length_append, List.length_cons, List.length_nil, List.length_drop] at this ⊢
            omega
          · rw [if_neg ho] at h
            cases h
theorem bytes_self (l : List Int) (hl : l.length ≤ 1000000) (d : Nat) : ∀ (k i : Nat), i + d = l.length → d < k → dragomanref23_Bytes.l0 k l l l.length i = some true := by
  induction d with
  | zero =>
    intro k i h hk
    obtain ⟨k, rfl⟩ : ∃ m, k = m + 1 := ⟨k - 1, by omega⟩
    simp only [dragomanref23_Bytes.l0]
    rw [if_neg (by omega)]
  | succ d ih =>
    intro k i h hk
    obtain ⟨k, rfl⟩ : ∃ m, k = m + 1 := ⟨k - 1, by omega⟩
    simp only [dragomanref23_Bytes.l0]
    rw [if_pos (by omega), if_pos (by omega), if_pos (by omega), if_pos (by omega), if_pos trivial]
    rw [show wrap64 ((i : Int) + 1) = ((i + 1 : Nat) : Int) by rw [wrap64_id (by omega) (by omega)]; omega]
    exact ih k (i + 1) (by omega) (by omega)
theorem bytes_same (l : List Int) (hl : l.length ≤ 1000000) (k : Nat) (hk : l.length < k) : dragomanref23_Bytes.f k l l = some true := by
  unfold dragomanref23_Bytes.f
  rw [if_pos rfl]
  exact bytes_self l hl l.length k 0 (by omega) hk
theorem same_self (l : List S34) (hl : l.length ≤ 1000000) (d : Nat) : ∀ (k i : Nat), i + d = l.length → d < k → dragomanref23_Same.l0 k l l l.length i = some true := by
  induction d with
  | zero =>
    intro k i h hk
    obtain ⟨k, rfl⟩ : ∃ m, k = m + 1 := ⟨k - 1, by omega⟩
    simp only [dragomanref23_Same.l0]
    rw [if_neg (by omega)]
  | succ d ih =>
    intro k i h hk
    obtain ⟨k, rfl⟩ : ∃ m, k = m + 1 := ⟨k - 1, by omega⟩
    simp only [dragomanref23_Same.l0]
    rw [if_pos (by omega), if_pos (by omega), if_pos (by omega), if_pos (by omega), if_neg (by simp)]
    rw [show wrap64 ((i : Int) + 1) = ((i + 1 : Nat) : Int) by rw [wrap64_id (by omega) (by omega)]; omega]
    exact ih k (i + 1) (by omega) (by omega)
theorem same_same (l : List S34) (hl : l.length ≤ 1000000) (k : Nat) (hk : l.length < k) : dragomanref23_Same.f k l l = some true := by
  unfold dragomanref23_Same.f
  rw [if_pos rfl]
  exact same_self l hl l.length k 0 (by omega) hk
end Go.Proofs.Ytpcjinapcmkbcaa.PNlriBack
