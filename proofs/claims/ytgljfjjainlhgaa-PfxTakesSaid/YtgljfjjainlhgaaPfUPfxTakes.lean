/- Flat has just what the list takes, each prefix once: plain lemmas. No conditions. -/
import Derived.Test.YtgljfjjainlhgaaPfTPfxTakes
namespace Go.Proofs.Ytgljfjjainlhgaa.PPfxTakes
open Go.RowKit Go.Proofs.YtgljfjjainlhgaaW.PrintWords Go.Proofs.YtgljfjjainlhgaaW.PrintLast Go.Proofs.YtgljfjjainlhgaaW.PrintMore
set_option linter.unusedVariables false
set_option linter.unusedSimpArgs false
theorem cnt_cons (p0 p1 : Int) (x : S26) (r : List S26) : cnt p0 p1 (x :: r) = cnt p0 p1 r + if inB p0 p1 x = true then 1 else 0 := by
  unfold cnt
  rw [List.countP_cons]
theorem flatM_cnt (p0 p1 : Int) (e : S41) (he : RightR e.f1) : ∀ (xs acc left : List S26), (∀ x ∈ xs, RightR x) → flatM 100 e xs acc = some left → cnt p0 p1 left = cnt p0 p1 acc + if inB p0 p1 e.f1 = true then 0 else cnt p0 p1 xs
  | [], acc, left, _, h => by
    obtain rfl : acc = left := Option.some.inj h
    have : cnt p0 p1 ([] : List S26) = 0 := rfl
    rw [this]
    split <;> rfl
  | x :: xs, acc, left, hx, h => by
    unfold flatM at h
    obtain ⟨m, hm, h⟩ := Option.bind_eq_some_iff.mp h
    by_cases hl : acc.length + m.length < 1000000
    · rw [if_pos hl] at h
      have hs := minus_sem 100 (by omega) x e.f1 (hx x List.mem_cons_self) he m hm p0 p1
      have ih := flatM_cnt p0 p1 e he xs (acc ++ m) left (fun y hy => hx y (List.mem_cons_of_mem _ hy)) h
      rw [ih, cnt_app, hs, cnt_cons]
      by_cases hI : inB p0 p1 e.f1 = true
      · rw [if_pos hI, if_pos hI, if_neg (by rw [hI]; simp)]
      · have hI' : inB p0 p1 e.f1 = false := by simpa using hI
        rw [if_neg hI, if_neg hI]
        by_cases hx2 : inB p0 p1 x = true
        · rw [if_pos ⟨hx2, hI'⟩, if_pos hx2]
          omega
        · rw [if_neg (fun h => hx2 h.1), if_neg hx2]
          omega
    · rw [if_neg hl] at h
      cases h
theorem takes_cons (p0 p1 : Int) (x : S41) (r : List S41) : takes p0 p1 (x :: r) = if inB p0 p1 x.f1 = true then !x.f0 else takes p0 p1 r := by
  show (if pfx_In.f x.f1.f0.f0 x.f1.f0.f1 x.f1.f1 x.f1.f2 p0 p1 = some true then !x.f0 else takes p0 p1 r) = _
  rw [in_inB]
  simp
theorem flatL_cnt (p0 p1 : Int) : ∀ (es s : List S41) (out r : List S26), out.length ≤ 1024 → (∀ x ∈ out, RightR x) → (cnt p0 p1 out = if takes p0 p1 s = true then 1 else 0) → flatL 100 es out = some (r, 0) → cnt p0 p1 r = if takes p0 p1 (es.reverse ++ s) = true then 1 else 0
  | [], s, out, r, _, _, hc, h => by
    obtain rfl : out = r := by simpa [flatL] using h
    rw [List.reverse_nil, List.nil_append]
    exact hc
  | e :: es, s, out, r, ho, hr, hc, h => by
    obtain ⟨b, hb⟩ := right_total e.f1
    unfold flatL at h
    rw [hb] at h
    simp only [Option.bind_some] at h
    rw [show (e :: es).reverse ++ s = es.reverse ++ (e :: s) by simp]
    cases b with
    | false =>
      rw [if_neg (by simp)] at h
      refine flatL_cnt p0 p1 es (e :: s) out r ho hr ?_ h
      have hI : inB p0 p1 e.f1 = false := by
        rw [← Bool.not_eq_true]
        intro h2
        have := ((inB_iff e.f1 p0 p1).1 h2).1
        unfold RightR at this
        rw [hb] at this
        simp at this
      rw [takes_cons, hI, hc]
      simp
    | true =>
      rw [if_pos rfl] at h
      obtain ⟨left, h1, h2, h3⟩ := flatM_total 100 (by omega) e hb out [] hr (by simp) (by simp; omega)
      simp only [List.length_nil] at h3
      have hcl := flatM_cnt p0 p1 e hb out [] left hr h1
      have e0 : cnt p0 p1 ([] : List S26) = 0 := rfl
      rw [e0, Nat.zero_add] at hcl
      unfold flatS at h
      rw [h1] at h
      simp only [Option.bind_some] at h
      by_cases hf : ((if e.f0 = true then left else left ++ [e.f1]).length : Int) > 1024
      · rw [if_pos hf] at h
        simp at h
      · rw [if_neg hf] at h
        refine flatL_cnt p0 p1 es (e :: s) _ r (by omega) ?_ ?_ h
        · intro x hx
          by_cases hd : e.f0 = true
          · rw [if_pos hd] at hx
            exact h2 x hx
          · rw [if_neg hd] at hx
            rcases List.mem_append.1 hx with h' | h'
            · exact h2 x h'
            · rw [List.mem_singleton.1 h']
              exact hb
        · rw [takes_cons]
          by_cases hd : e.f0 = true
          · rw [if_pos hd, hcl, hd]
            by_cases hI : inB p0 p1 e.f1 = true
            · rw [if_pos hI, if_pos hI]
              simp
            · rw [if_neg hI, if_neg hI, hc]
          · have hd' : e.f0 = false := by simpa using hd
            rw [if_neg hd, cnt_app, hcl, cnt_one, hd']
            by_cases hI : inB p0 p1 e.f1 = true
            · rw [if_pos hI, if_pos hI, if_pos hI]
              simp
            · rw [if_neg hI, if_neg hI, if_neg hI, hc]
              rfl
end Go.Proofs.Ytgljfjjainlhgaa.PPfxTakes
