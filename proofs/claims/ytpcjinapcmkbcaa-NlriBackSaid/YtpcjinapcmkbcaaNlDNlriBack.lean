/- What nlri.Put makes of good places, and what nlri.Read makes of it: plain lemmas. No conditions. -/
import Derived.Test.YtpcjinapcmkbcaaNlBNlriBack
namespace Go.Proofs.Ytpcjinapcmkbcaa.PNlriBack
open Go.RowKit Go.Proofs.YtpcjinapcmkbcaaW.PrintWords Go.Proofs.YtpcjinapcmkbcaaW.PrintLast Go.Proofs.YtpcjinapcmkbcaaW.PrintMore
set_option linter.unusedVariables false
set_option linter.unusedSimpArgs false

/-- The bits behind the first n are 0. -/
def maskOf (a l : Int) : Int × Int := (a / 2 ^ (32 - mx 0 (mn l 32)).toNat * 2 ^ (32 - mx 0 (mn l 32)).toNat, mx 0 (mn l 32))
theorem div_mul_bd {a : Int} {s : Nat} (h0 : 0 ≤ a) (h1 : a < 4294967296) (hs : s ≤ 32) : 0 ≤ a / 2 ^ s * 2 ^ s ∧ a / 2 ^ s * 2 ^ s ≤ a := by
  have hp := pow_bd hs
  have := Int.mul_ediv_add_emod a (2 ^ s)
  have h2 := Int.emod_nonneg a (show (2 : Int) ^ s ≠ 0 by omega)
  rw [Int.mul_comm] at this
  exact ⟨Int.mul_nonneg (Int.ediv_nonneg h0 (by omega)) (by omega), by omega⟩
theorem mask_eq {a : Int} (l : Int) (h0 : 0 ≤ a) (h1 : a < 4294967296) : route_Mask.f a l = some (maskOf a l) := by
  unfold route_Mask.f maskOf
  have hn := mx_mn l
  generalize mx 0 (mn l 32) = n at hn ⊢
  have hb := div_mul_bd (s := (32 - n).toNat) h0 h1 (by omega)
  have e1 : IntKind.u64.wrap a = a := by rw [wrapu64]; omega
  rw [e1, wrapu64]
  congr 2
  omega
def right (p : S34) : Bool := p.f0 == (maskOf p.f0 p.f1).1 && p.f1 == (maskOf p.f0 p.f1).2
def GoodP (p : S34) : Prop := 0 ≤ p.f0 ∧ p.f0 < 4294967296
theorem right_len {p : S34} (h : right p = true) : 0 ≤ p.f1 ∧ p.f1 ≤ 32 ∧ maskOf p.f0 p.f1 = (p.f0, p.f1) := by
  unfold right at h
  simp only [Bool.and_eq_true, beq_iff_eq] at h
  have hn := mx_mn p.f1
  have h2 : p.f1 = mx 0 (mn p.f1 32) := h.2
  refine ⟨by omega, by omega, ?_⟩
  exact Prod.ext h.1.symm h.2.symm
def nsize (p : S34) : Int := if right p = true then 1 + (p.f1 + 7) / 8 else 0
theorem bytes_eq {l : Int} (h0 : 0 ≤ l) (h1 : l ≤ 32) : nlri_bytes.f l = some ((l + 7) / 8) := by
  unfold nlri_bytes.f
  rw [wrap64_id (x := l + 7) (by omega) (by omega), Int.tdiv_eq_ediv_of_nonneg (by omega), wrap64_id (by omega) (by omega)]
theorem size_eq {p : S34} (hg : GoodP p) : nlri_Size.f p.f0 p.f1 = some (nsize p) := by
  unfold nlri_Size.f nsize
  rw [mask_eq _ hg.1 hg.2]
  simp only [Option.bind_some]
  by_cases h : right p = true
  · have hr := right_len h
    rw [if_pos h, if_neg (by rw [hr.2.2]; simp), bytes_eq hr.1 hr.2.1]
    simp only [Option.bind_some]
    rw [wrap64_id (by omega) (by omega)]
  · rw [if_neg h, if_pos]
    simp only [right, Bool.and_eq_true] at h
    simp only [Bool.or_eq_true, Bool.not_eq_true']
    by_cases h1 : (p.f0 == (maskOf p.f0 p.f1).1) = true
    · right; simpa [h1] using h
    · left; simpa using h1
def encP (p : S34) : List Int := [IntKind.u8.wrap p.f1] ++ (oct4 p.f0).take ((p.f1 + 7) / 8).toNat
def putL : List S34 → List Int → List Int × Int
  | [], out => (out, 0)
  | p :: r, out => if right p = true then putL r (out ++ encP p) else ([], 4)
theorem rdP_at {l : List S34} {i : Nat} (h : i < l.length) : rd_T34 l (i : Int) = l[i] := by
  unfold rd_T34
  simp [List.getD_eq_getElem?_getD, List.getElem?_eq_getElem h]
theorem enc_len (p : S34) (h : right p = true) : (encP p).length = (nsize p).toNat ∧ (encP p).length ≤ 5 := by
  have hr := right_len h
  unfold encP nsize
  rw [if_pos h]
  simp only [List.length_append, List.length_cons, List.length_nil, List.length_take, oct4]
  omega
theorem put_l0 (x0 : List S34) (hl : x0.length ≤ 1000000) (hg : ∀ p ∈ x0, GoodP p) (d : Nat) : ∀ (k i : Nat) (out : List Int), i + d = x0.length → d < k → out.length + 5 * d < 999990 → nlri_Put.l0 k x0 out i = some (putL (x0.drop i) out) := by
  induction d with
  | zero =>
    intro k i out h hk ho
    obtain ⟨k, rfl⟩ : ∃ m, k = m + 1 := ⟨k - 1, by omega⟩
    simp only [nlri_Put.l0]
    rw [if_neg (by omega), List.drop_eq_nil_of_le (by omega)]
    rfl
  | succ d ih =>
    intro k i out h hk ho
    obtain ⟨k, rfl⟩ : ∃ m, k = m + 1 := ⟨k - 1, by omega⟩
    have hlt : i < x0.length := by omega
    simp only [nlri_Put.l0]
    rw [if_pos (by omega), if_pos (by omega), rdP_at hlt, List.drop_eq_getElem_cons hlt]
    have hgp := hg x0[i] (List.getElem_mem hlt)
    generalize x0[i] = p at hgp
    rw [size_eq hgp]
    simp only [Option.bind_some, putL]
    by_cases h : right p = true
    · have hr := right_len h
      have hn : nsize p = 1 + (p.f1 + 7) / 8 := by unfold nsize; rw [if_pos h]
      rw [if_pos h, hn, if_neg (by omega), if_pos (by omega), if_pos (by omega), if_pos (by omega)]
      rw [show wrap64 ((i : Int) + 1) = ((i + 1 : Nat) : Int) by rw [wrap64_id (by omega) (by omega)]; omega]
      rw [show out ++ [IntKind.u8.wrap p.f1] ++ (oct4 p.f0).take (1 + (p.f1 + 7) / 8 - 1).toNat = out ++ encP p by
        unfold encP; rw [show 1 + (p.f1 + 7) / 8 - 1 = (p.f1 + 7) / 8 by omega, List.append_assoc]]
      refine ih k (i + 1) _ (by omega) (by omega) ?_
      have := (enc_len p h).2
      rw [List.length_append]
      omega
    · have hn : nsize p = 0 := by unfold nsize; rw [if_neg h]
      rw [if_neg h, hn, if_pos rfl]
theorem put_f (l : List S34) (hl : l.length ≤ 150000) (hg : ∀ p ∈ l, GoodP p) : nlri_Put.f l = some (putL l []) := by
  have := put_l0 l (by omega) hg l.length (l.length + 1) 0 [] (by omega) (by omega) (by simp; omega)
  simpa [nlri_Put.f] using this
theorem refRight_eq {p : S34} (hg : GoodP p) (k : Nat) (hk : 33 ≤ k) : dragomanref03_Right.f k p.f0 p.f1 = some (right p) := by
  unfold dragomanref03_Right.f
  rw [refMask_eq _ _ k hk, mask_eq _ hg.1 hg.2]
  rfl
theorem putL_len : ∀ (l : List S34) (out : List Int), (putL l out).1.length ≤ out.length + 5 * l.length
  | [], out => by simp [putL]
  | p :: r, out => by
    simp only [putL]
    by_cases h : right p = true
    · rw [if_pos h]
      have := putL_len r (out ++ encP p)
      have := (enc_len p h).2
      simp only [List.length_append, List.length_cons] at *
      omega
    · rw [if_neg h]
      simp
end Go.Proofs.Ytpcjinapcmkbcaa.PNlriBack
