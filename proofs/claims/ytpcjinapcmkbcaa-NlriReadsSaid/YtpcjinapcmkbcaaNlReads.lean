/- What nlri.Read and the document's Read tell of any bytes, and that a list is the same as itself: plain lemmas over the printed functions. -/
import Derived.Test.YtpcjinapcmkbcaaPNlriReadsx4
namespace Go.Proofs.Ytpcjinapcmkbcaa.PNlriReads
open Go.RowKit Go.Proofs.YtpcjinapcmkbcaaW.PrintWords Go.Proofs.YtpcjinapcmkbcaaW.PrintLast Go.Proofs.YtpcjinapcmkbcaaW.PrintMore
set_option linter.unusedVariables false
set_option linter.unusedSimpArgs false

theorem wrap64_id {x : Int} (h0 : -9223372036854775808 ≤ x) (h1 : x ≤ 9223372036854775807) : wrap64 x = x := by unfold wrap64; omega
theorem wrapu64 (x : Int) : IntKind.u64.wrap x = x % 18446744073709551616 := by simp [IntKind.wrap, IntKind.bits, IntKind.signed]
theorem mx_mn (l : Int) : 0 ≤ mx 0 (mn l 32) ∧ mx 0 (mn l 32) ≤ 32 := by unfold mx mn; split <;> split <;> omega
theorem pow_bd {n : Nat} (h : n ≤ 32) : 1 ≤ (2 : Int) ^ n ∧ (2 : Int) ^ n ≤ 4294967296 := by
  have h1 : (2 : Nat) ^ n ≤ 2 ^ 32 := Nat.pow_le_pow_right (by decide) h
  have h0 : 1 ≤ (2 : Nat) ^ n := Nat.one_le_two_pow
  have e : ((2 ^ n : Nat) : Int) = (2 : Int) ^ n := by simp
  have h2 : (2 : Nat) ^ 32 = 4294967296 := by decide
  omega

/-- The document's Mask, from a place on. -/
theorem refMask_from (a l : Int) (n : Int) (hn0 : 0 ≤ n) (hn : n ≤ 32) (d : Nat) : ∀ (k : Nat) (i : Nat), i + d = 32 → n ≤ i → d < k →
    dragomanref03_Mask.l0 k n (2 ^ ((i : Int) - n).toNat) i a l = some ((IntKind.u64.wrap ((IntKind.u64.wrap a / 2 ^ (32 - n).toNat) * 2 ^ (32 - n).toNat)) % 4294967296, n) := by
  induction d with
  | zero =>
    intro k i hi hni hk
    obtain ⟨k, rfl⟩ : ∃ m, k = m + 1 := ⟨k - 1, by omega⟩
    obtain rfl : i = 32 := by omega
    simp only [dragomanref03_Mask.l0]
    have hp := pow_bd (n := (32 - n).toNat) (by omega)
    have e : (((32 : Nat) : Int) - n).toNat = (32 - n).toNat := rfl
    rw [if_neg (by omega), e, if_neg (by omega)]
    have hu : 0 ≤ IntKind.u64.wrap a ∧ IntKind.u64.wrap a < 18446744073709551616 := by rw [wrapu64]; omega
    have hd : IntKind.u64.wrap (Int.tdiv (IntKind.u64.wrap a) (2 ^ (32 - n).toNat)) = IntKind.u64.wrap a / 2 ^ (32 - n).toNat := by
      rw [Int.tdiv_eq_ediv_of_nonneg hu.1, wrapu64 (_ / _)]
      have h1 : 0 ≤ IntKind.u64.wrap a / 2 ^ (32 - n).toNat := Int.ediv_nonneg hu.1 (by omega)
      have h2 : IntKind.u64.wrap a / 2 ^ (32 - n).toNat ≤ IntKind.u64.wrap a := Int.ediv_le_self _ hu.1
      omega
    rw [hd]
  | succ d ih =>
    intro k i hi hni hk
    obtain ⟨k, rfl⟩ : ∃ m, k = m + 1 := ⟨k - 1, by omega⟩
    simp only [dragomanref03_Mask.l0]
    rw [if_pos (by omega)]
    have hp := pow_bd (n := ((i : Int) - n).toNat) (by omega)
    have h1 : IntKind.u64.wrap (2 * 2 ^ ((i : Int) - n).toNat) = 2 ^ (((i + 1 : Nat) : Int) - n).toNat := by
      rw [show (((i + 1 : Nat) : Int) - n).toNat = ((i : Int) - n).toNat + 1 by omega, Int.pow_succ, wrapu64]
      omega
    have h2 : wrap64 ((i : Int) + 1) = ((i + 1 : Nat) : Int) := by rw [wrap64_id (by omega) (by omega)]; omega
    rw [h1, h2]
    exact ih k (i + 1) (by omega) (by omega) (by omega)
theorem refMask_eq (a l : Int) (k : Nat) (hk : 33 ≤ k) : dragomanref03_Mask.f k a l = route_Mask.f a l := by
  have hn := mx_mn l
  unfold dragomanref03_Mask.f route_Mask.f
  generalize mx 0 (mn l 32) = n at hn ⊢
  obtain ⟨m, rfl⟩ := Int.eq_ofNat_of_zero_le hn.1
  have := refMask_from a l m hn.1 hn.2 (32 - m) k m (by omega) (by omega) (by omega)
  simpa using this

/-- The bytes of an address, added. -/
def sumIn : List Int → Nat → Int → Int
  | [], _, acc => acc
  | c :: r, i, acc => sumIn r (i + 1) (acc + c * 2 ^ (24 - 8 * i))
theorem wraps_u32' (n : Int) (h₀ : 0 ≤ n) (h₁ : n < 2 ^ 32) : IntKind.u32.wrap n = n := by rw [IntKind.wrap_u32]; omega
theorem or_add {i : Nat} (hi : i < 4) {acc c : Int} (h0 : 0 ≤ acc) (h1 : acc < 4294967296) (hm : acc % 2 ^ (32 - 8 * i) = 0) (c0 : 0 ≤ c) (c1 : c < 256) :
    Go.bits .or .u32 acc (c * 2 ^ (24 - 8 * i) % 4294967296) = acc + c * 2 ^ (24 - 8 * i) ∧ acc + c * 2 ^ (24 - 8 * i) < 4294967296 ∧ (acc + c * 2 ^ (24 - 8 * i)) % 2 ^ (24 - 8 * i) = 0 := by
  have key : ∀ s : Nat, s ≤ 24 → 32 - 8 * i = s + 8 → c * 2 ^ s % 4294967296 = c * 2 ^ s ∧ 0 ≤ c * 2 ^ s ∧ c * 2 ^ s < 2 ^ (s + 8) ∧ (acc + c * 2 ^ s < 4294967296) ∧ (acc + c * 2 ^ s) % 2 ^ s = 0 := by
    intro s hs he
    rw [he] at hm
    have hp := pow_bd (n := s) (by omega)
    have h8 : (2 : Int) ^ (s + 8) = 256 * 2 ^ s := by rw [Int.pow_add]; omega
    have hlt : c * 2 ^ s < 2 ^ (s + 8) := by
      rw [h8]
      exact Int.mul_lt_mul_of_pos_right c1 (by omega)
    have hp8 := pow_bd (n := s + 8) (by omega)
    have hn : 0 ≤ c * 2 ^ s := Int.mul_nonneg c0 (by omega)
    have hbd : acc + 2 ^ (s + 8) ≤ 4294967296 := by
      have e : (4294967296 : Int) = 2 ^ (32 - (s + 8)) * 2 ^ (s + 8) := by rw [← Int.pow_add, show 32 - (s + 8) + (s + 8) = 32 by omega]; rfl
      have hq := Int.mul_ediv_add_emod acc (2 ^ (s + 8))
      rw [hm] at hq
      generalize (2 : Int) ^ (s + 8) = M at *
      generalize (2 : Int) ^ (32 - (s + 8)) = Q at *
      have hlt2 : acc / M < Q := by
        have : M * (acc / M) < M * Q := by rw [Int.mul_comm M Q, ← e]; omega
        exact Int.lt_of_mul_lt_mul_left this (by omega)
      have : M * (acc / M + 1) ≤ M * Q := Int.mul_le_mul_of_nonneg_left (by omega) (by omega)
      rw [Int.mul_add, Int.mul_comm M Q, ← e] at this
      omega
    refine ⟨Int.emod_eq_of_lt hn (by omega), hn, hlt, by omega, ?_⟩
    rw [Int.add_mul_emod_self_right]
    have : (2 : Int) ^ s ∣ 2 ^ (s + 8) := ⟨256, by rw [h8]; omega⟩
    exact Int.emod_eq_zero_of_dvd (Int.dvd_trans this (Int.dvd_of_emod_eq_zero hm))
  obtain ⟨k1, k2, k3, k4, k5⟩ := key (24 - 8 * i) (by omega) (by omega)
  refine ⟨?_, k4, k5⟩
  rw [k1]
  refine bits_join .u32 32 (by decide) wraps_u32' (24 - 8 * i + 8) acc _ h0 ?_ h1 k2 k3 ?_
  · rw [show 24 - 8 * i + 8 = 32 - 8 * i by omega]; exact hm
  · have hp8 := pow_bd (n := 24 - 8 * i + 8) (by omega)
    have : (2 : Int) ^ 32 = 4294967296 := by decide
    omega
theorem orIn_sum : ∀ (bs : List Int) (i : Nat) (acc : Int), i + bs.length ≤ 4 → 0 ≤ acc → acc < 4294967296 → acc % 2 ^ (32 - 8 * i) = 0 → (∀ x ∈ bs, 0 ≤ x ∧ x < 256) → orIn bs i acc = sumIn bs i acc ∧ 0 ≤ sumIn bs i acc ∧ sumIn bs i acc < 4294967296
  | [], _, _, _, h0, h1, _, _ => ⟨rfl, h0, h1⟩
  | c :: r, i, acc, hl, h0, h1, hm, hb => by
    simp only [List.length_cons] at hl
    have hc := hb c List.mem_cons_self
    obtain ⟨k1, k2, k3⟩ := or_add (by omega) h0 h1 hm hc.1 hc.2
    have hp := pow_bd (n := 24 - 8 * i) (by omega)
    simp only [orIn, sumIn]
    rw [k1]
    exact orIn_sum r (i + 1) _ (by omega) (by have := Int.mul_nonneg hc.1 (show (0 : Int) ≤ 2 ^ (24 - 8 * i) by omega); omega) k2 (by rw [show 32 - 8 * (i + 1) = 24 - 8 * i by omega]; exact k3) (fun x hx => hb x (List.mem_cons_of_mem _ hx))

theorem rd_at {l : List Int} {i : Nat} (h : i < l.length) : rd l (i : Int) = l[i] := by
  unfold rd
  simp [List.getD_eq_getElem?_getD, List.getElem?_eq_getElem h]

/-- The inner loop of the document's Read: the bytes of one address. -/
theorem refRead_l1 (b : List Int) (hbl : b.length ≤ 1000000) (hb : ∀ x ∈ b, 0 ≤ x ∧ x < 256) (out : List S34) (hol : out.length < 1000000) (n : Int) (hn0 : 0 ≤ n) (hn : n ≤ 32) (d : Nat) :
    ∀ (k : Nat) (i j : Nat) (acc : Int), (j : Int) + d = (n + 7) / 8 → i ≤ b.length → 0 ≤ acc → acc < 4294967296 → acc % 2 ^ (32 - 8 * j) = 0 → d + 34 < k →
      dragomanref23_Read.l1 k b out i n acc (if j < 4 then 2 ^ (24 - 8 * j) else 0) ((8 * j : Nat) : Int) =
        (if b.length < i + d then some ([], 3) else (route_Mask.f (sumIn ((b.drop i).take d) j acc) n).bind fun m => dragomanref23_Read.l0 (k - d - 1) b (out ++ [⟨m.1, m.2⟩]) ((i + d : Nat) : Int)) := by
  induction d with
  | zero =>
    intro k i j acc hd hi h0 h1 hm hk
    obtain ⟨k, rfl⟩ : ∃ m, k = m + 1 := ⟨k - 1, by omega⟩
    simp only [dragomanref23_Read.l1]
    rw [if_neg (by omega), refMask_eq _ _ _ (by omega), if_neg (by omega)]
    simp only [List.take_zero, sumIn]
    congr 1
    funext m
    rw [if_pos (by omega)]
    simp
  | succ d ih =>
    intro k i j acc hd hi h0 h1 hm hk
    obtain ⟨k, rfl⟩ : ∃ m, k = m + 1 := ⟨k - 1, by omega⟩
    have hj : j < 4 := by omega
    simp only [dragomanref23_Read.l1]
    rw [if_pos (by omega), if_pos hj]
    by_cases hi' : i = b.length
    · rw [if_pos (by omega), if_pos (by omega)]
    · have hlt : i < b.length := by omega
      rw [if_neg (by omega), if_pos (by omega), if_pos (by omega)]
      have s1 : ((j + 1 : Nat) : Int) + d = (n + 7) / 8 := by omega
      have s2 : i + 1 ≤ b.length := by omega
      have s4 : d + 34 < k := by omega
      have hc := hb b[i] (List.getElem_mem hlt)
      rw [rd_at hlt]
      obtain ⟨k1, k2, k3⟩ := or_add hj h0 h1 hm hc.1 hc.2
      have s3 : (acc + b[i] * 2 ^ (24 - 8 * j)) % 2 ^ (32 - 8 * (j + 1)) = 0 := by rw [show 32 - 8 * (j + 1) = 24 - 8 * j by omega]; exact k3
      have hp := pow_bd (n := 24 - 8 * j) (by omega)
      have hpos : 0 ≤ b[i] * 2 ^ (24 - 8 * j) := Int.mul_nonneg hc.1 (by omega)
      have e1 : (acc + b[i] % 4294967296 * 2 ^ (24 - 8 * j) % 4294967296) % 4294967296 = acc + b[i] * 2 ^ (24 - 8 * j) := by
        rw [Int.emod_eq_of_lt hc.1 (by omega), Int.emod_eq_of_lt hpos (by omega), Int.emod_eq_of_lt (by omega) (by omega)]
      have e2 : Int.tdiv (2 ^ (24 - 8 * j)) 256 % 4294967296 = if j + 1 < 4 then 2 ^ (24 - 8 * (j + 1)) else 0 := by
        rcases (show j = 0 ∨ j = 1 ∨ j = 2 ∨ j = 3 by omega) with rfl | rfl | rfl | rfl <;> simp
      have e3 : wrap64 ((i : Int) + 1) = ((i + 1 : Nat) : Int) := by rw [wrap64_id (by omega) (by omega)]; omega
      have e4 : wrap64 (((8 * j : Nat) : Int) + 8) = ((8 * (j + 1) : Nat) : Int) := by rw [wrap64_id (by omega) (by omega)]; omega
      rw [e1, e2, e3, e4, ih k (i + 1) (j + 1) _ s1 s2 (Int.add_nonneg h0 hpos) k2 s3 s4]
      clear e1 e2 e3 e4 k1 k2 k3 s3 hm hp hpos
      rw [List.drop_eq_getElem_cons hlt, List.take_succ_cons]
      simp only [sumIn]
      rw [show i + 1 + d = i + (d + 1) by omega, show k + 1 - (d + 1) - 1 = k - d - 1 by omega]

/-- The document's Read tells what nlri.Read tells. -/
theorem refRead_ev (b : List Int) (hbl : b.length ≤ 1000000) (hb : ∀ x ∈ b, 0 ≤ x ∧ x < 256) (r : List S34 × Int) (m : Nat) : ∀ (i : Nat) (out : List S34), i ≤ b.length → out.length ≤ i → nread m (b.drop i) out = some r → ∀ k, 40 * (m + 1) ≤ k → dragomanref23_Read.l0 k b out i = some r := by
  induction m with
  | zero => intro i out _ _ h; simp [nread] at h
  | succ m ih =>
    intro i out hi ho h k hk
    obtain ⟨k, rfl⟩ : ∃ m, k = m + 1 := ⟨k - 1, by omega⟩
    simp only [dragomanref23_Read.l0]
    by_cases hlt : i < b.length
    · rw [if_pos (by omega), if_pos (by omega), rd_at hlt]
      rw [List.drop_eq_getElem_cons hlt] at h
      have hc := hb b[i] (List.getElem_mem hlt)
      generalize b[i] = c at h hc
      rw [wrap64_id (by omega) (by omega)]
      simp only [nread] at h
      by_cases h32 : c > 32
      · rw [if_pos h32] at h ⊢
        exact h
      · rw [if_neg h32] at h ⊢
        rw [wrap64_id (by omega) (by omega)]
        have hd : ((((c + 7) / 8).toNat : Nat) : Int) = (c + 7) / 8 := by omega
        have h1 := refRead_l1 b hbl hb out (by omega) c (by omega) (by omega) ((c + 7) / 8).toNat k (i + 1) 0 0 (by omega) (by omega) (by omega) (by omega) (by simp) (by omega)
        simp only [show (0 : Nat) < 4 by decide, if_true] at h1
        rw [show (((i + 1 : Nat) : Int)) = (i : Int) + 1 by omega] at h1
        have h1' : dragomanref23_Read.l1 k b out ((i : Int) + 1) c 0 16777216 0 = _ := h1
        rw [h1']
        have hlen : (b.drop (i + 1)).length = b.length - (i + 1) := List.length_drop
        by_cases hs : ((b.drop (i + 1)).length : Int) < (c + 7) / 8
        · rw [if_pos hs] at h
          rw [if_pos (by omega)]
          exact h
        · rw [if_neg hs] at h
          rw [if_neg (by omega)]
          by_cases hol : out.length < 1000000
          · rw [if_pos hol] at h
            have ho := orIn_sum ((b.drop (i + 1)).take ((c + 7) / 8).toNat) 0 0 (by rw [List.length_take]; omega) (by omega) (by omega) (by simp) (fun x hx => hb x (List.mem_of_mem_drop (List.mem_of_mem_take hx)))
            rw [ho.1] at h
            obtain ⟨⟨m1, m2⟩, hM, h⟩ := Option.bind_eq_some_iff.mp h
            rw [hM]
            simp only [Option.bind_some]
            rw [List.drop_drop] at h
            have := ih (i + 1 + ((c + 7) / 8).toNat) (out ++ [⟨m1, m2⟩]) (by omega) (by simp; omega) h (k - ((c + 7) / 8).toNat - 1) (by omega)
            simpa using this
          · rw [if_neg hol] at h
            cases h
    · rw [if_neg (by omega)]
      rw [List.drop_eq_nil_of_le (by omega)] at h
      simpa [nread] using h
theorem route_Mask_some (a l : Int) : ∃ m, route_Mask.f a l = some m := ⟨_, rfl⟩
theorem nread_some (m : Nat) : ∀ (b : List Int) (out : List S34), b.length < m → out.length + b.length < 1000000 → ∃ r, nread m b out = some r := by
  induction m with
  | zero => intro b out h; omega
  | succ m ih =>
    intro b out h ho
    cases b with
    | nil => exact ⟨_, rfl⟩
    | cons c r =>
      simp only [List.length_cons] at h ho
      simp only [nread]
      by_cases h32 : c > 32
      · rw [if_pos h32]; exact ⟨_, rfl⟩
      · rw [if_neg h32]
        by_cases hs : (r.length : Int) < (c + 7) / 8
        · rw [if_pos hs]; exact ⟨_, rfl⟩
        · rw [if_neg hs, if_pos (by omega)]
          obtain ⟨mm, hM⟩ := route_Mask_some (orIn (r.take ((c + 7) / 8).toNat) 0 0) c
          rw [hM]
          simp only [Option.bind_some]
          exact ih _ _ (by rw [List.length_drop]; omega) (by simp only [List.length_append, List.length_cons, List.length_nil, List.length_drop]; omega)

theorem nread_len (m : Nat) : ∀ (b : List Int) (out : List S34) (r : List S34 × Int), nread m b out = some r → r.1.length ≤ out.length + b.length := by
  induction m with
  | zero => intro b out r h; simp [nread] at h
  | succ m ih =>
    intro b out r h
    cases b with
    | nil =>
      obtain rfl : (out, 0) = r := by simpa [nread] using h
      simp
    | cons c t =>
      simp only [nread] at h
      by_cases h32 : c > 32
      · rw [if_pos h32] at h
        obtain rfl := Option.some.inj h
        simp
      · rw [if_neg h32] at h
        by_cases hs : (t.length : Int) < (c + 7) / 8
        · rw [if_pos hs] at h
          obtain rfl := Option.some.inj h
          simp
        · rw [if_neg hs] at h
          by_cases ho : out.length < 1000000
          · rw [if_pos ho] at h
            obtain ⟨mm, _, h⟩ := Option.bind_eq_some_iff.mp h
            have := ih _ _ r h
            simp only [List.length_append, List.length_cons, List.length_nil, List.length_drop] at this ⊢
            omega
          · rw [if_neg ho] at h
            cases h
theorem bytes_self (l : List Int) (hl : l.length ≤ 1000000) (d : Nat) : ∀ (k i : Nat), i + d = l.length → d < k → dragomanref23_Bytes.l0 k l l l.length i = some true := by
  induction d with
  | zero =>
    intro k i h hk
    obtain ⟨k, rfl⟩ : ∃ m, k = m + 1 := ⟨k - 1, by omega⟩
    simp only [dragomanref23_Bytes.l0]
    rw [if_neg (by omega)]
  | succ d ih =>
    intro k i h hk
    obtain ⟨k, rfl⟩ : ∃ m, k = m + 1 := ⟨k - 1, by omega⟩
    simp only [dragomanref23_Bytes.l0]
    rw [if_pos (by omega), if_pos (by omega), if_pos (by omega), if_pos (by omega), if_pos trivial]
    rw [show wrap64 ((i : Int) + 1) = ((i + 1 : Nat) : Int) by rw [wrap64_id (by omega) (by omega)]; omega]
    exact ih k (i + 1) (by omega) (by omega)
theorem bytes_same (l : List Int) (hl : l.length ≤ 1000000) (k : Nat) (hk : l.length < k) : dragomanref23_Bytes.f k l l = some true := by
  unfold dragomanref23_Bytes.f
  rw [if_pos rfl]
  exact bytes_self l hl l.length k 0 (by omega) hk
theorem same_self (l : List S34) (hl : l.length ≤ 1000000) (d : Nat) : ∀ (k i : Nat), i + d = l.length → d < k → dragomanref23_Same.l0 k l l l.length i = some true := by
  induction d with
  | zero =>
    intro k i h hk
    obtain ⟨k, rfl⟩ : ∃ m, k = m + 1 := ⟨k - 1, by omega⟩
    simp only [dragomanref23_Same.l0]
    rw [if_neg (by omega)]
  | succ d ih =>
    intro k i h hk
    obtain ⟨k, rfl⟩ : ∃ m, k = m + 1 := ⟨k - 1, by omega⟩
    simp only [dragomanref23_Same.l0]
    rw [if_pos (by omega), if_pos (by omega), if_pos (by omega), if_pos (by omega), if_neg (by simp)]
    rw [show wrap64 ((i : Int) + 1) = ((i + 1 : Nat) : Int) by rw [wrap64_id (by omega) (by omega)]; omega]
    exact ih k (i + 1) (by omega) (by omega)
theorem same_same (l : List S34) (hl : l.length ≤ 1000000) (k : Nat) (hk : l.length < k) : dragomanref23_Same.f k l l = some true := by
  unfold dragomanref23_Same.f
  rw [if_pos rfl]
  exact same_self l hl l.length k 0 (by omega) hk
end Go.Proofs.Ytpcjinapcmkbcaa.PNlriReads
