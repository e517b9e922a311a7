/- The assertion language of <Name>Sep within a fence, for a range over a function: lemmas alone. -/
import Derived.Test.YtgljfjjainlhgaaSep
import Derived.RangeFuncNested
import Derived.RangeFuncBound
import Derived.RangeFuncCalls
import Derived.RangeFuncLeaves
import Derived.Shelf.Abstract
import Derived.WalkKit
import Derived.OwnWalkIn
import Derived.TacticsInMore
import Derived.LoopNIn
import Derived.LoopIn
import Derived.Sort.LoopGhostIn
namespace Go.Proofs.Ytgljfjjainlhgaa.Sp
open Go Go.RowKit
set_option linter.unusedVariables false
set_option linter.unusedSimpArgs false

theorem Res.holds.cells {r : Res} {w : World} {base : Nat} (h : r.holds w base) : ∀ k, r.blk = some k → ∃ o : Obj, w.heap[k]? = some o ∧ o.isCells = true := by
  cases r with
  | row e sz v n cs =>
    intro k hk
    obtain ⟨h1, h2⟩ := h
    rcases h2 with ⟨rfl, _⟩ | ⟨g, cap, cur, rfl, hg, hh, _⟩
    · simp [Res.blk, Value.ownBlock] at hk
    · have hk' : g = k := by simpa [Res.blk, Value.ownBlock] using hk
      subst hk'
      exact ⟨_, hh, rfl⟩
  | var g t cs =>
    intro k hk
    have hk' : g = k := by simpa [Res.blk] using hk
    subst hk'
    exact ⟨_, h.2, rfl⟩
/-- What is owned abides new blocks, and a turn of a block that holds no cells. -/
theorem Sep.grown {w0 w w' : World} {R : List Res} {row : Option Nat} (h : Sep w0 w R) (hg : w.grownBy w' row) (hr : ∀ k, row = some k → w0.heap.size ≤ k ∧ ∃ o : Obj, w.heap[k]? = some o ∧ o.isCells = false) : Sep w0 w' R :=
  ⟨below_of_grown h.below hg (fun k e => (hr k e).1), fun s hs => (h.holds s hs).keep (fun k hk => hg.block k ((h.holds s hs).lt k hk).2 (fun e => by
    obtain ⟨o, ho, hc⟩ := (hr k e.symm).2
    obtain ⟨o', ho', hc'⟩ := (h.holds s hs).cells k hk
    rw [ho] at ho'
    cases ho'
    rw [hc] at hc'
    cases hc')), h.apart⟩
theorem keeps_of_below {w w' : World} (h : Below w.heap.size w w') : KeepsOthers w w' := ⟨h.size, fun k o hk _ => (h.block k (Array.getElem?_eq_some_iff.1 hk).1).trans hk⟩

section
variable {P : Program} {w0 w : World} {L F : List Res} {e sz n : Nat} {v : Value} {cs : List Value}
theorem Sep.appendK (hS : Sep w0 w (L ++ .row e sz v n cs :: F)) (t ty : TypeId) (z : Value) (bytes : Nat) (ht : P.underlying t = some (.slice e))
    (hinfo : (P.info? e).map (fun i => (i.zero, i.size, i.bytes)) = some (some z, sz, bytes)) (hz : z.cells.size = sz) (hs0 : 0 < sz) (hb0 : 0 < bytes)
    (A : Option Addr) (m c : Nat) (news : List Value) (hV : View w A news) (hl : news.length = m * sz) (h1 : ∀ u ∈ news, u.oneCell' = true) (hby : (n + m) * bytes ≤ 140737488355328) :
    ∃ v1 w1, (Builtin.append_ #[t, t] ty #[v, .slice A m c]).run P w = .ok v1 w1 ∧ Sep w0 w1 (L ++ .row e sz v1 (n + m) (cs ++ news) :: F) ∧ KeepsOthers w w1 := by
  obtain ⟨i0, hi, hzz⟩ := Option.map_eq_some_iff.1 hinfo
  simp only [Prod.mk.injEq] at hzz
  obtain ⟨hz0, hz1, hz2⟩ := hzz
  have hown := hS.row
  have hlen : n + m ≤ 140737488355328 := Nat.le_trans (Nat.le_mul_of_pos_right _ hb0) hby
  rcases A with _ | ad
  · have h0 : news = [] := by
      rcases news with _ | ⟨x, r⟩
      · rfl
      · obtain ⟨ad, h, _⟩ := hV (by simp)
        cases h
    subst h0
    have hm0 : m = 0 := by
      simp only [List.length_nil] at hl
      rcases Nat.eq_zero_or_pos m with h | h
      · exact h
      · have := Nat.mul_pos h hs0; omega
    subst hm0
    refine ⟨v, w, ?_, by simpa using hS, KeepsOthers.refl _⟩
    rcases hown.2 with ⟨rfl, hn⟩ | ⟨g, cap, cur, rfl, _, _, hnc, _⟩
    · simp [Builtin.append_, run_underlying ht, sizeOf, typeInfo, hi, Builtin.lenOf, Builtin.firstCells]
    · simp [Builtin.append_, run_underlying ht, sizeOf, typeInfo, hi, Builtin.lenOf, Builtin.firstCells, hnc, storeCells]
  · have hnews : ∀ j u, news[j]? = some u → w.cell? (ad.add j) = some u := by
      intro j u hj
      obtain ⟨ad', he, h⟩ := hV (by have := (List.getElem?_eq_some_iff.1 hj).1; omega)
      cases he
      exact h j u hj
    obtain ⟨v1, w1, hrun, h2, hg, _, hat⟩ := run_append_own_at (P := P) w w0.heap.size t ty e i0 z sz bytes ht hi hz0 hz1 hz2 hz hs0 v n cs hown ad m c news hl hnews h1 (by simp only [maxLen]; omega) hby hS.size
    refine ⟨v1, w1, hrun, hS.grow hg h2 ?_, KeepsOthers.of_grownBy hg (fun j o hj ho => ?_)⟩
    · rcases hat with hat | hat
      · exact .inl hat
      · exact .inr ⟨_, hat, Nat.le_refl _⟩
    · obtain ⟨o', ho', hc'⟩ := (hS.holds (.row e sz v n cs) (by simp)).cells j hj
      rw [ho] at ho'
      cases ho'
      exact hc'
variable {F' : Fence} {dn : Nat} {ops : Array Oper} {rest : List Oper} {o : Oper} {a : Act} {Q : Exit → Act → World → Prop}
/-- An append, in a walk in the text's order, within a fence. -/
theorem append_listIn (hS : Sep w0 w (L ++ .row e sz v n cs :: F)) (s x : Operand) (t : TypeId) (hgd : o.guard = none) (ho : o.op = .call { callee := .builtin .append, args := #[s, x], argTypes := #[t, t] })
    (z : Value) (bytes : Nat) (ht : P.underlying t = some (.slice e))
    (hinfo : (P.info? e).map (fun i => (i.zero, i.size, i.bytes)) = some (some z, sz, bytes)) (hz : z.cells.size = sz) (hs0 : 0 < sz) (hb0 : 0 < bytes) (hs : a.eval s = v)
    (A : Option Addr) (m c : Nat) (news : List Value) (hx : a.eval x = .slice A m c) (hV : View w A news) (hl : news.length = m * sz) (h1 : ∀ u ∈ news, u.oneCell' = true) (hby : (n + m) * bytes ≤ 140737488355328)
    (h : ∀ v1 w1, Sep w0 w1 (L ++ .row e sz v1 (n + m) (cs ++ news) :: F) → KeepsOthers w w1 → wpListIn F' dn P ops Q rest (a.put o.dst v1) w1) : wpListIn F' dn P ops Q (o :: rest) a w := by
  obtain ⟨v1, w1, hrun, h2, hk⟩ := hS.appendK (P := P) t o.type z bytes ht hinfo hz hs0 hb0 A m c news hV hl h1 hby
  refine wpListIn_plain hgd fun K hK => ?_
  unfold Oper.wpIn
  refine ⟨?_, ?_⟩
  · simp [Oper.about, ho, resolve, Target.leads, Sem.run_pure]
  · rw [Oper.semAt_plain F' _ _ (by rw [ho]; intro c hc'; cases hc')]
    unfold execOp
    simp only [ho, resolve, invoke, builtin, Sem.run_bind, Sem.run_pure, Result.andThen_ok, List.map_toArray, List.map_cons, List.map_nil, hs, hx, hrun]
    exact hK _ _ (h v1 w1 h2 hk)
end
end Go.Proofs.Ytgljfjjainlhgaa.Sp
