/- Whatever the prefixes, nlri.Put tells the bytes, or the error, that the document's Put tells, the sizes agree, and the prefixes stay: the plain statement behind the row. No conditions. -/
import Derived.Test.YtpcjinapcmkbcaaNaNlriPuts
namespace Go.Proofs.Ytpcjinapcmkbcaa.Pure
open Go.RowKit Go.Proofs.Ytpcjinapcmkbcaa.PNlriPuts Go.Proofs.YtpcjinapcmkbcaaW.PrintWords Go.Proofs.YtpcjinapcmkbcaaW.PrintLast
theorem sizes_ok (l : List S34) (hl : l.length ≤ 2000) (hg : ∀ p ∈ l, GoodP p) (d : Nat) : ∀ (k i : Nat), i + d = l.length → d + 41 < k → dragomanlaw23_NlriPuts.l0 k l l.length i = some true := by
  induction d with
  | zero =>
    intro k i h hk
    obtain ⟨k, rfl⟩ : ∃ m, k = m + 1 := ⟨k - 1, by omega⟩
    simp only [dragomanlaw23_NlriPuts.l0]
    rw [if_neg (by omega)]
  | succ d ih =>
    intro k i h hk
    obtain ⟨k, rfl⟩ : ∃ m, k = m + 1 := ⟨k - 1, by omega⟩
    have hlt : i < l.length := by omega
    simp only [dragomanlaw23_NlriPuts.l0]
    rw [if_pos (by omega), if_pos (by omega), if_pos (by omega), rdP_at hlt]
    have hgp := hg l[i] (List.getElem_mem hlt)
    rw [size_eq hgp, refSize_eq hgp k (by omega)]
    simp only [Option.bind_some, if_true]
    rw [show wrap64 ((i : Int) + 1) = ((i + 1 : Nat) : Int) by rw [wrap64_id (by omega) (by omega)]; omega]
    exact ih k (i + 1) (by omega) (by omega)
theorem NlriPuts : dragomanlaw23_NlriPuts.Pure := by
  intro l0 hw
  have hg : ∀ p ∈ l0, GoodP p := by
    intro p hp
    have := (hw.2 p hp).1
    simp only [good32, Lit.wf, IntKind.min, IntKind.max, IntKind.signed, IntKind.bits, Bool.and_eq_true] at this
    simp at this
    unfold GoodP
    omega
  refine ⟨10 * l0.length + 100, ?_⟩
  unfold dragomanlaw23_NlriPuts.f
  rw [alive_ok _ (by omega)]
  simp only [Option.bind_some, if_true]
  by_cases hbig : (l0.length : Int) > 2000
  · rw [if_pos hbig]
  · rw [if_neg hbig]
    simp only [List.length_nil, List.nil_append]
    rw [if_pos (by omega), put_f l0 (by omega) hg, refPut_eq _ (by omega) l0 (by omega) hg]
    simp only [Option.bind_some, if_true]
    have hlen := putL_len l0 []
    simp only [List.length_nil] at hlen
    rw [bytes_same _ (by omega) _ (by omega)]
    simp only [Option.bind_some, if_true]
    rw [same_same l0 (by omega) _ (by omega)]
    simp only [Option.bind_some, Bool.not_true]
    obtain ⟨k, hk⟩ : ∃ m, 10 * l0.length + 100 = m + 1 := ⟨10 * l0.length + 99, by omega⟩
    rw [hk]
    simp only [dragomanlaw23_NlriPuts.j0, Bool.false_eq_true, if_false]
    exact sizes_ok l0 (by omega) hg l0.length k 0 (by omega) (by omega)
end Go.Proofs.Ytpcjinapcmkbcaa.Pure
