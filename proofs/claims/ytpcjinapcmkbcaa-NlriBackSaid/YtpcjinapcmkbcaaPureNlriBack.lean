/- What nlri.Put made, nlri.Read reads back; what nlri.Read tells is right and fills the text: the plain statement behind the row. No conditions. -/
import Derived.Test.YtpcjinapcmkbcaaNaNlriBack
namespace Go.Proofs.Ytpcjinapcmkbcaa.Pure
open Go.RowKit Go.Proofs.Ytpcjinapcmkbcaa.PNlriBack Go.Proofs.YtpcjinapcmkbcaaW.PrintWords Go.Proofs.YtpcjinapcmkbcaaW.PrintLast
theorem back_l0 (x1 : List Int) (h1 : x1.length ≤ 10000) (l : List S34) (hl : l.length ≤ 10000) (hg : ∀ p ∈ l, GoodP p ∧ right p = true) (hs : sizes l = x1.length) (d : Nat) : ∀ (k i : Nat) (s : Int), i + d = l.length → d + 40 < k → 0 ≤ s → s + sizes (l.drop i) = x1.length → dragomanlaw23_NlriBack.l0 k x1 l s l l.length i = some true := by
  have hr : ∀ p ∈ l, right p = true := fun p hp => (hg p hp).2
  induction d with
  | zero =>
    intro k i s h hk s0 hsum
    obtain ⟨k, rfl⟩ : ∃ m, k = m + 1 := ⟨k - 1, by omega⟩
    simp only [dragomanlaw23_NlriBack.l0]
    rw [if_neg (by omega), put_f l (by omega) (fun p hp => (hg p hp).1)]
    rcases putL_right l [] with ⟨_, hp⟩ | hp
    · rw [hp]
      simp only [Option.bind_some, List.nil_append, if_true]
      rw [enc_sizes l hr, hs, if_pos rfl]
      rw [List.drop_eq_nil_of_le (by omega)] at hsum
      simp only [sizes] at hsum
      obtain rfl : s = x1.length := by omega
      simp
    · exact absurd hp (putL_ok l [] hr)
  | succ d ih =>
    intro k i s h hk s0 hsum
    obtain ⟨k, rfl⟩ : ∃ m, k = m + 1 := ⟨k - 1, by omega⟩
    have hlt : i < l.length := by omega
    simp only [dragomanlaw23_NlriBack.l0]
    rw [if_pos (by omega), if_pos (by omega), if_pos (by omega), rdP_at hlt]
    obtain ⟨hgp, hrp⟩ := hg l[i] (List.getElem_mem hlt)
    rw [List.drop_eq_getElem_cons hlt] at hsum
    simp only [sizes] at hsum
    have hrest := sizes_bd (l.drop (i + 1)) (fun p hp => hr p (List.mem_of_mem_drop hp))
    have hn := (right_len hrp)
    have hnn : nsize l[i] = 1 + (l[i].f1 + 7) / 8 := by unfold nsize; rw [if_pos hrp]
    rw [refRight_eq hgp k (by omega), size_eq hgp, hrp]
    simp only [Option.bind_some, if_true]
    rw [show wrap64 ((i : Int) + 1) = ((i + 1 : Nat) : Int) by rw [wrap64_id (by omega) (by omega)]; omega, wrap64_id (x := s + nsize l[i]) (by omega) (by omega)]
    exact ih k (i + 1) _ (by omega) (by omega) (by omega) (by omega)
theorem back_j1 (x1 : List Int) (h1 : x1.length ≤ 10000) (hb : ∀ x ∈ x1, 0 ≤ x ∧ x < 256) (k : Nat) (hk : 20000 < k) : dragomanlaw23_NlriBack.j1 (k + 1) x1 = some true := by
  obtain ⟨⟨r, e⟩, hr⟩ := nread_some (x1.length + 1) x1 [] (by omega) (by simp; omega)
  simp only [dragomanlaw23_NlriBack.j1]
  rw [read_f x1 hb (by omega), hr]
  simp only [Option.bind_some]
  rcases nread_err _ _ _ _ _ hr with rfl | rfl
  · obtain ⟨l', h0, hg, hs⟩ := nread_right _ _ _ _ hb hr
    rw [List.nil_append] at h0
    subst h0
    rename List S34 => l'
    simp only [if_true]
    have hlen := sizes_bd l' (fun p hp => (hg p hp).2)
    exact back_l0 x1 h1 l' (by omega) hg hs l'.length k 0 0 (by omega) (by omega) (by omega) (by rw [List.drop_zero]; omega)
  · by_cases hz : e = 0
    · subst hz
      obtain ⟨l', h0, hg, hs⟩ := nread_right _ _ _ _ hb hr
      rw [List.nil_append] at h0
      subst h0
      simp only [if_true]
      exact back_l0 x1 h1 [] (by simp) hg hs 0 k 0 0 (by simp) (by omega) (by omega) (by rw [List.drop_zero]; omega)
    · rw [if_neg hz]
      rfl
theorem NlriBack : dragomanlaw23_NlriBack.Pure := by
  intro x0 x1 hw0 hw1
  have hb : ∀ x ∈ x1, 0 ≤ x ∧ x < 256 := fun x hx => byte_bd (hw1.2 x hx)
  have hg : ∀ p ∈ x0, GoodP p := by
    intro p hp
    have := (hw0.2 p hp).1
    simp only [good32, Lit.wf, IntKind.min, IntKind.max, IntKind.signed, IntKind.bits, Bool.and_eq_true] at this
    simp at this
    unfold GoodP
    omega
  refine ⟨30002, ?_⟩
  unfold dragomanlaw23_NlriBack.f
  rw [alive_ok _ (by omega)]
  simp only [Option.bind_some, if_true]
  by_cases h0 : (x0.length : Int) > 2000
  · rw [if_pos h0]
    rfl
  · rw [if_neg h0]
    by_cases h1 : (x1.length : Int) > 10000
    · rw [decide_eq_true h1]
      rfl
    · rw [decide_eq_false h1]
      simp only [dragomanlaw23_NlriBack.j0, Bool.false_eq_true, if_false]
      rw [put_f x0 (by omega) hg]
      have hlen := putL_len x0 []
      simp only [List.length_nil] at hlen
      have hj := back_j1 x1 (by omega) hb 30000 (by omega)
      rcases putL_right x0 [] with ⟨hr, hp⟩ | hp
      · rw [hp] at hlen ⊢
        simp only [Option.bind_some, List.nil_append, if_true] at hlen ⊢
        have hread := nread_put x0 [] (fun p hp => ⟨hg p hp, hr p hp⟩) (by simp; omega)
        rw [List.nil_append] at hread
        have hbe : ∀ x ∈ x0.flatMap encP, 0 ≤ x ∧ x < 256 := by
          intro x hx
          obtain ⟨p, hp, hx⟩ := List.mem_flatMap.1 hx
          have hn := right_len (hr p hp)
          unfold encP at hx
          rw [wrap8 hn.1 hn.2.1] at hx
          rcases List.mem_append.1 hx with h | h
          · simp at h
            omega
          · exact oct4_bd _ x (List.mem_of_mem_take h)
        obtain ⟨r2, hr2⟩ := nread_some ((x0.flatMap encP).length + 1) (x0.flatMap encP) [] (by omega) (by simp only [List.length_nil]; omega)
        have hmore := nread_more _ _ _ _ hr2 ((x0.flatMap encP).length + 1 + (x0.length + 1)) (by omega)
        rw [nread_more _ _ _ _ hread _ (by omega)] at hmore
        obtain rfl := Option.some.inj hmore
        rw [read_f _ hbe (by omega), hr2]
        simp only [Option.bind_some, if_true]
        rw [same_same x0 (by omega) _ (by omega)]
        simp only [Option.bind_some, if_true]
        exact hj
      · rw [hp]
        simp only [Option.bind_some]
        rw [if_neg (by decide)]
        exact hj
end Go.Proofs.Ytpcjinapcmkbcaa.Pure
