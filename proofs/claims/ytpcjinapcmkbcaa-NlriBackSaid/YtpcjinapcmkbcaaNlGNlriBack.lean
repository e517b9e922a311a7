/- nlri.Put and nlri.Read turn each other round: plain lemmas. No conditions. -/
import Derived.Test.YtpcjinapcmkbcaaNlFNlriBack
namespace Go.Proofs.Ytpcjinapcmkbcaa.PNlriBack
open Go.RowKit Go.Proofs.YtpcjinapcmkbcaaW.PrintWords Go.Proofs.YtpcjinapcmkbcaaW.PrintLast Go.Proofs.YtpcjinapcmkbcaaW.PrintMore
set_option linter.unusedVariables false
set_option linter.unusedSimpArgs false
theorem putL_right : ∀ (l : List S34) (out : List Int), ((∀ p ∈ l, right p = true) ∧ putL l out = (out ++ l.flatMap encP, 0)) ∨ putL l out = ([], 4)
  | [], out => .inl ⟨by simp, by simp [putL]⟩
  | p :: r, out => by
    simp only [putL]
    by_cases h : right p = true
    · rw [if_pos h]
      rcases putL_right r (out ++ encP p) with ⟨h1, h2⟩ | h1
      · refine .inl ⟨fun q hq => ?_, ?_⟩
        · rcases List.mem_cons.1 hq with rfl | hq
          · exact h
          · exact h1 q hq
        · rw [h2, List.flatMap_cons, List.append_assoc]
      · exact .inr h1
    · rw [if_neg h]
      exact .inr rfl
theorem putL_ok : ∀ (l : List S34) (out : List Int), (∀ p ∈ l, right p = true) → ¬ putL l out = ([], 4)
  | [], out, _ => by simp [putL]
  | p :: r, out, h => by
    simp only [putL]
    rw [if_pos (h p List.mem_cons_self)]
    exact putL_ok r _ (fun q hq => h q (List.mem_cons_of_mem _ hq))
theorem mod_pow {a : Int} {s t : Nat} (hst : s ≤ t) (h : a % 2 ^ t = 0) : a % 2 ^ s = 0 := by
  have : (2 : Int) ^ s ∣ 2 ^ t := ⟨2 ^ (t - s), by rw [← Int.pow_add, show s + (t - s) = t by omega]⟩
  exact Int.emod_eq_zero_of_dvd (Int.dvd_trans this (Int.dvd_of_emod_eq_zero h))
theorem right_mod {p : S34} (h : right p = true) : p.f0 % 2 ^ (32 - p.f1).toNat = 0 := by
  have hr := right_len h
  have e : p.f0 / 2 ^ (32 - p.f1).toNat * 2 ^ (32 - p.f1).toNat = p.f0 := by
    have h1 : (maskOf p.f0 p.f1).1 = p.f0 := by rw [hr.2.2]
    have h2 : mx 0 (mn p.f1 32) = p.f1 := by have : (maskOf p.f0 p.f1).2 = p.f1 := by rw [hr.2.2]
                                             exact this
    unfold maskOf at h1
    rw [h2] at h1
    exact h1
  rw [← e]
  exact Int.mul_emod_left _ _
theorem sum_top (a : Int) (n : Nat) (hn : n ≤ 4) (h0 : 0 ≤ a) (h1 : a < 4294967296) (hm : a % 2 ^ (32 - 8 * n) = 0) : sumIn ((oct4 a).take n) 0 0 = a := by
  rcases (show n = 0 ∨ n = 1 ∨ n = 2 ∨ n = 3 ∨ n = 4 by omega) with rfl | rfl | rfl | rfl | rfl <;> simp [oct4, sumIn] at hm ⊢ <;> omega
theorem oct4_bd (a : Int) : ∀ x ∈ oct4 a, 0 ≤ x ∧ x < 256 := by
  intro x hx
  simp only [oct4, List.mem_cons, List.not_mem_nil, or_false] at hx
  rcases hx with rfl | rfl | rfl | rfl <;> omega
theorem enc_top {p : S34} (hg : GoodP p) (h : right p = true) : orIn ((oct4 p.f0).take ((p.f1 + 7) / 8).toNat) 0 0 = p.f0 := by
  have hr := right_len h
  have hm := right_mod h
  have ho := orIn_sum ((oct4 p.f0).take ((p.f1 + 7) / 8).toNat) 0 0 (by rw [List.length_take]; simp [oct4]; omega) (by omega) (by omega) (by simp) (fun x hx => oct4_bd _ x (List.mem_of_mem_take hx))
  rw [ho.1]
  exact sum_top _ _ (by omega) hg.1 hg.2 (mod_pow (by omega) hm)
theorem wrap8 {x : Int} (h0 : 0 ≤ x) (h1 : x ≤ 32) : IntKind.u8.wrap x = x := by
  simp [IntKind.wrap, IntKind.bits, IntKind.signed]
  omega
theorem nread_put : ∀ (l : List S34) (out : List S34), (∀ p ∈ l, GoodP p ∧ right p = true) → out.length + l.length < 1000000 → nread (l.length + 1) (l.flatMap encP) out = some (out ++ l, 0)
  | [], out, _, _ => by simp [nread]
  | p :: r, out, hg, ho => by
    obtain ⟨hgp, h⟩ := hg p List.mem_cons_self
    have hr := right_len h
    have ht := enc_top hgp h
    simp only [List.length_cons] at ho ⊢
    rw [List.flatMap_cons]
    unfold encP
    rw [wrap8 hr.1 hr.2.1, List.append_assoc, List.singleton_append]
    have hlen : ((oct4 p.f0).take ((p.f1 + 7) / 8).toNat).length = ((p.f1 + 7) / 8).toNat := by
      rw [List.length_take]
      simp [oct4]
      omega
    simp only [nread]
    rw [if_neg (by omega), if_neg (by rw [List.length_append, hlen]; omega), if_pos (by omega)]
    rw [List.take_append_of_le_length (by omega), List.drop_append_of_le_length (by omega), List.take_of_length_le (by omega), List.drop_of_length_le (by omega), ht, mask_eq _ hgp.1 hgp.2, hr.2.2]
    simp only [Option.bind_some, List.nil_append]
    rw [show (⟨p.f0, p.f1⟩ : S34) = p from rfl]
    have := nread_put r (out ++ [p]) (fun q hq => hg q (List.mem_cons_of_mem _ hq)) (by simp; omega)
    rw [show out ++ p :: r = out ++ [p] ++ r by simp]
    exact this
theorem mask_right {s c : Int} (h0 : 0 ≤ s) (h1 : s < 4294967296) (c0 : 0 ≤ c) (c1 : c ≤ 32) : GoodP (⟨(maskOf s c).1, (maskOf s c).2⟩ : S34) ∧ right (⟨(maskOf s c).1, (maskOf s c).2⟩ : S34) = true ∧ (maskOf s c).2 = c := by
  have hc : mx 0 (mn c 32) = c := by unfold mx mn; split <;> split <;> omega
  have e : maskOf s c = (s / 2 ^ (32 - c).toNat * 2 ^ (32 - c).toNat, c) := by unfold maskOf; rw [hc]
  have hb := div_mul_bd (s := (32 - c).toNat) h0 h1 (by omega)
  have hp := pow_bd (n := (32 - c).toNat) (by omega)
  rw [e]
  refine ⟨⟨hb.1, by simp only; omega⟩, ?_, rfl⟩
  unfold right maskOf
  simp only [hc]
  rw [Int.mul_ediv_cancel _ (by omega)]
  simp
def sizes : List S34 → Int
  | [] => 0
  | p :: r => nsize p + sizes r
theorem sizes_app (a b : List S34) : sizes (a ++ b) = sizes a + sizes b := by
  induction a with
  | nil => simp [sizes]
  | cons p r ih => simp only [List.cons_append, sizes, ih]; omega
theorem nread_right (m : Nat) : ∀ (b : List Int) (out l : List S34), (∀ x ∈ b, 0 ≤ x ∧ x < 256) → nread m b out = some (l, 0) → ∃ l', l = out ++ l' ∧ (∀ p ∈ l', GoodP p ∧ right p = true) ∧ sizes l' = b.length := by
  induction m with
  | zero => intro b out l _ h; simp [nread] at h
  | succ m ih =>
    intro b out l hb h
    cases b with
    | nil =>
      obtain rfl : out = l := by simpa [nread] using h
      exact ⟨[], by simp, by simp, rfl⟩
    | cons c t =>
      simp only [nread] at h
      by_cases h32 : c > 32
      · rw [if_pos h32] at h
        simp at h
      · rw [if_neg h32] at h
        by_cases hs : (t.length : Int) < (c + 7) / 8
        · rw [if_pos hs] at h
          simp at h
        · rw [if_neg hs] at h
          by_cases ho : out.length < 1000000
          · rw [if_pos ho] at h
            have hc := hb c List.mem_cons_self
            have hbt : ∀ x ∈ t, 0 ≤ x ∧ x < 256 := fun x hx => hb x (List.mem_cons_of_mem _ hx)
            have hS := orIn_sum (t.take ((c + 7) / 8).toNat) 0 0 (by rw [List.length_take]; omega) (by omega) (by omega) (by simp) (fun x hx => hbt x (List.mem_of_mem_take hx))
            rw [hS.1, mask_eq _ hS.2.1 hS.2.2] at h
            simp only [Option.bind_some] at h
            have hM := mask_right hS.2.1 hS.2.2 hc.1 (by omega)
            obtain ⟨l', rfl, h1, h2⟩ := ih _ _ l (fun x hx => hbt x (List.mem_of_mem_drop hx)) h
            refine ⟨_ :: l', by rw [List.append_assoc]; rfl, ?_, ?_⟩
            · intro q hq
              rcases List.mem_cons.1 hq with rfl | hq
              · exact ⟨hM.1, hM.2.1⟩
              · exact h1 q hq
            · simp only [sizes]
              rw [h2, List.length_drop, List.length_cons]
              unfold nsize
              rw [if_pos hM.2.1, hM.2.2]
              dsimp only
              omega
          · rw [if_neg ho] at h
            cases h
theorem enc_sizes : ∀ (l : List S34), (∀ p ∈ l, right p = true) → ((l.flatMap encP).length : Int) = sizes l
  | [], _ => rfl
  | p :: r, h => by
    have hp := h p List.mem_cons_self
    have hr := right_len hp
    have := (enc_len p hp).1
    rw [List.flatMap_cons, List.length_append, sizes, ← enc_sizes r (fun q hq => h q (List.mem_cons_of_mem _ hq))]
    have hn : nsize p = 1 + (p.f1 + 7) / 8 := by unfold nsize; rw [if_pos hp]
    omega
theorem sizes_bd : ∀ (l : List S34), (∀ p ∈ l, right p = true) → (l.length : Int) ≤ sizes l
  | [], _ => by simp [sizes]
  | p :: r, h => by
    have hp := h p List.mem_cons_self
    have hr := right_len hp
    have hn : nsize p = 1 + (p.f1 + 7) / 8 := by unfold nsize; rw [if_pos hp]
    have := sizes_bd r (fun q hq => h q (List.mem_cons_of_mem _ hq))
    simp only [List.length_cons, sizes]
    omega
end Go.Proofs.Ytpcjinapcmkbcaa.PNlriBack
