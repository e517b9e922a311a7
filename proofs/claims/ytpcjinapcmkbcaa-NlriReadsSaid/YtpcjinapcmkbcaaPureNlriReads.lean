/- Whatever the bytes, nlri.Read tells the prefixes, or the error, that the document's Read tells, and the bytes stay: the plain statement behind the row. No conditions. -/
import Derived.Test.YtpcjinapcmkbcaaNaReads
namespace Go.Proofs.Ytpcjinapcmkbcaa.Pure
open Go.RowKit Go.Proofs.Ytpcjinapcmkbcaa.PNlriReads Go.Proofs.YtpcjinapcmkbcaaW.PrintWords Go.Proofs.YtpcjinapcmkbcaaW.PrintLast
theorem NlriReads : dragomanlaw23_NlriReads.Pure := by
  intro l0 _ hl2 hw
  have hb : ∀ x ∈ l0, 0 ≤ x ∧ x < 256 := by
    intro x hx
    have := hw x hx
    simp only [Lit.wf, IntKind.min, IntKind.max, IntKind.signed, IntKind.bits, Bool.and_eq_true] at this
    simp at this
    omega
  refine ⟨40 * (l0.length + 2) + 10, ?_⟩
  unfold dragomanlaw23_NlriReads.f
  rw [alive_ok _ (by omega)]
  simp only [Option.bind_some, if_true]
  by_cases hbig : (l0.length : Int) > 10000
  · rw [if_pos hbig]
  · rw [if_neg hbig]
    simp only [List.length_nil, List.nil_append]
    rw [if_pos (by omega)]
    obtain ⟨r, hr⟩ := nread_some (l0.length + 1) l0 [] (by omega) (by simp; omega)
    have h1 : nlri_Read.f l0 = some r := by
      unfold nlri_Read.f
      rw [if_pos ⟨List.all_eq_true.2 (fun x hx => by have := hb x hx; simp [this.1, this.2]), by omega⟩]
      exact hr
    have h2 : dragomanref23_Read.f (40 * (l0.length + 2) + 10) l0 = some r :=
      refRead_ev l0 (by omega) hb r (l0.length + 1) 0 [] (by omega) (by simp) hr _ (by omega)
    rw [h1, h2]
    simp only [Option.bind_some, if_true]
    have hlen : r.1.length ≤ 1000000 ∧ r.1.length < 40 * (l0.length + 2) + 10 := by
      have := nread_len (l0.length + 1) l0 [] r hr
      simp at this
      omega
    rw [same_same _ hlen.1 _ hlen.2]
    simp only [Option.bind_some, if_true]
    rw [bytes_same l0 (by omega) _ (by omega)]
    rfl
end Go.Proofs.Ytpcjinapcmkbcaa.Pure
