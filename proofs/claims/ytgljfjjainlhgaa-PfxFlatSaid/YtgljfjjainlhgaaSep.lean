/- A small assertion language for calls that own rows and variables: what they own holds, lies apart, and nothing that was there before has turned. No conditions: definitions and lemmas alone. -/
import Derived.Below
import Derived.Deep.Draws
import Derived.Deep.AppendLies
import Derived.OwnWalk
import Derived.Laws.MakeOwn
import Derived.Laws.OwnMore
import Derived.Deep.OwnRows
import Derived.Tactics
import Derived.WalkKit
import Derived.KernelRfl
import Derived.Deep.LoopGhost
import Derived.ArgAppend
import Derived.ScopeJumps
import Derived.Maps.AppendAt
namespace Go.Proofs.Ytgljfjjainlhgaa.Sp
open Go Go.RowKit
set_option linter.unusedVariables false
set_option linter.unusedSimpArgs false

/-- What a call owns: a row of cells behind a slice, or a variable's block. -/
inductive Res where
  | row (e : TypeId) (sz : Nat) (v : Value) (n : Nat) (cs : List Value)
  | var (g : Nat) (t : TypeId) (cs : List Value)

def Res.blk : Res → Option Nat
  | .row _ _ v _ _ => v.ownBlock
  | .var g _ _ => some g

def Res.holds (w : World) (base : Nat) : Res → Prop
  | .row e sz v n cs => w.ownsRow base e sz v n cs
  | .var g t cs => base ≤ g ∧ w.heap[g]? = some (.cells cs.toArray t (0, 0))

def apart (a b : Res) : Prop := ∀ k, a.blk = some k → b.blk ≠ some k
theorem apart.symm {a b : Res} (h : apart a b) : apart b a := fun k hb ha => h k ha hb

structure Sep (w0 w : World) (R : List Res) : Prop where
  below : Below w0.heap.size w0 w
  holds : ∀ r ∈ R, r.holds w w0.heap.size
  apart : R.Pairwise apart

theorem Res.holds.lt {r : Res} {w : World} {base : Nat} (h : r.holds w base) : ∀ k, r.blk = some k → base ≤ k ∧ k < w.heap.size := by
  cases r with
  | row e sz v n cs => exact fun k hk => World.ownsRow.lt h k hk
  | var g t cs =>
    intro k hk
    have hk' : g = k := by simpa [Res.blk] using hk
    subst hk'
    refine ⟨h.1, ?_⟩
    have h2 := h.2
    rcases Nat.lt_or_ge g w.heap.size with hl | hl
    · exact hl
    · rw [Array.getElem?_eq_none hl] at h2; cases h2

theorem Res.holds.keep {r : Res} {w w' : World} {base : Nat} (h : r.holds w base) (hk : ∀ k, r.blk = some k → w'.heap[k]? = w.heap[k]?) : r.holds w' base := by
  cases r with
  | row e sz v n cs =>
    obtain ⟨h1, h2⟩ := h
    refine ⟨h1, ?_⟩
    rcases h2 with h2 | ⟨g, cap, cur, rfl, hg, hh, r⟩
    · exact .inl h2
    · exact .inr ⟨g, cap, cur, rfl, hg, (hk g (by simp [Res.blk, Value.ownBlock])).trans hh, r⟩
  | var g t cs => exact ⟨h.1, (hk g rfl).trans h.2⟩

theorem Res.holds.lower {r : Res} {w : World} {base base' : Nat} (h : r.holds w base) (hb : base' ≤ base) : r.holds w base' := by
  cases r with
  | row e sz v n cs =>
    obtain ⟨h1, h2⟩ := h
    refine ⟨h1, ?_⟩
    rcases h2 with h2 | ⟨g, cap, cur, rfl, hg, r⟩
    · exact .inl h2
    · exact .inr ⟨g, cap, cur, rfl, Nat.le_trans hb hg, r⟩
  | var g t cs => exact ⟨Nat.le_trans hb h.1, h.2⟩

theorem Sep.nil (w : World) : Sep w w [] := ⟨Below.refl _ _, by simp, List.Pairwise.nil⟩
theorem Sep.size {w0 w : World} {R : List Res} (h : Sep w0 w R) : w0.heap.size ≤ w.heap.size := h.below.size

theorem Sep.perm {w0 w : World} {R R' : List Res} (h : Sep w0 w R) (hp : R.Perm R') : Sep w0 w R' :=
  ⟨h.below, fun r hr => h.holds r (hp.mem_iff.2 hr), (hp.pairwise_iff apart.symm).1 h.apart⟩
theorem Sep.sub {w0 w : World} {R R' : List Res} (h : Sep w0 w R) (hp : R'.Sublist R) : Sep w0 w R' :=
  ⟨h.below, fun r hr => h.holds r (hp.subset hr), h.apart.sublist hp⟩
/-- What is forgotten. -/
theorem Sep.drop {w0 w : World} {L F : List Res} {r : Res} (h : Sep w0 w (L ++ r :: F)) : Sep w0 w (L ++ F) :=
  h.sub (List.Sublist.append (List.Sublist.refl _) (List.sublist_cons_self _ _))
theorem Sep.tail {w0 w : World} {F : List Res} {r : Res} (h : Sep w0 w (r :: F)) : Sep w0 w F := Sep.drop (L := []) h
theorem Sep.front {w0 w : World} {L F : List Res} {r : Res} (h : Sep w0 w (L ++ r :: F)) : Sep w0 w (r :: (L ++ F)) := h.perm List.perm_middle
theorem Sep.back {w0 w : World} {L F : List Res} {r : Res} (h : Sep w0 w (r :: (L ++ F))) : Sep w0 w (L ++ r :: F) := h.perm List.perm_middle.symm

/-- A world that reads alike everywhere. -/
theorem Sep.drew {w0 w : World} {R : List Res} (h : Sep w0 w R) : Sep w0 w.drew R := ⟨h.below.drew, fun r hr => (h.holds r hr).keep (fun _ _ => rfl), h.apart⟩
theorem Sep.drewN {w0 w : World} {R : List Res} (h : Sep w0 w R) (n : Nat) : Sep w0 (w.drewN n) R :=
  ⟨⟨h.below.os, h.below.tape, h.below.output, h.below.size, h.below.block⟩, fun r hr => (h.holds r hr).keep (fun _ _ => rfl), h.apart⟩

theorem below_of_grown {w0 w w' : World} {row : Option Nat} (h : Below w0.heap.size w0 w) (hg : w.grownBy w' row) (hr : ∀ k, row = some k → w0.heap.size ≤ k) : Below w0.heap.size w0 w' :=
  h.grown hg h.size hr

/-- Something new is owned; nothing else has turned. -/
theorem Sep.add {w0 w w' : World} {R : List Res} (h : Sep w0 w R) (hg : w.grownBy w' none) {r : Res} (hr : r.holds w' w0.heap.size) (hn : ∀ k, r.blk = some k → w.heap.size ≤ k) : Sep w0 w' (r :: R) := by
  refine ⟨below_of_grown h.below hg (by simp), ?_, ?_⟩
  · intro s hs
    rcases List.mem_cons.1 hs with rfl | hs
    · exact hr
    · exact (h.holds s hs).keep (fun k hk => hg.block k ((h.holds s hs).lt k hk).2 (by simp))
  · refine List.Pairwise.cons (fun s hs k hk hk' => ?_) h.apart
    have := ((h.holds s hs).lt k hk').2
    have := hn k hk
    omega
theorem grownBy_of_below {w w' : World} (hb : Below w.heap.size w w') : w.grownBy w' none := ⟨hb.os, hb.tape, hb.output, hb.size, fun k hk _ => hb.block k hk⟩
theorem Sep.keep {w0 w w' : World} {R : List Res} (h : Sep w0 w R) (hb : Below w.heap.size w w') : Sep w0 w' R :=
  ⟨below_of_grown h.below (grownBy_of_below hb) (by simp), fun s hs => (h.holds s hs).keep (fun k hk => hb.block k ((h.holds s hs).lt k hk).2), h.apart⟩

/-- A new block. -/
theorem Sep.alloc {w0 w : World} {R : List Res} (h : Sep w0 w R) (cs : List Value) (t : TypeId) : Sep w0 (w.alloc (.cells cs.toArray t)) (.var w.heap.size t cs :: R) := by
  refine h.add (World.grownBy_alloc _ _ _) ⟨h.size, ?_⟩ (fun k hk => by simp [Res.blk] at hk; omega)
  show (w.heap.push _)[w.heap.size]? = _
  simp

/-- One thing that is owned has turned, perhaps into another block. -/
theorem Sep.upd {w0 w w' : World} {L F : List Res} {r r' : Res} (h : Sep w0 w (L ++ r :: F)) (hg : w.grownBy w' r.blk) (hr : r'.holds w' w0.heap.size)
    (hn : ∀ k, r'.blk = some k → r.blk = some k ∨ w.heap.size ≤ k) : Sep w0 w' (L ++ r' :: F) := by
  have h' := h.front
  have hr0 := h'.holds r List.mem_cons_self
  have hall : ∀ s ∈ L ++ F, s.holds w w0.heap.size := fun s hs => h'.holds s (List.mem_cons_of_mem _ hs)
  have hap := List.pairwise_cons.1 h'.apart
  refine Sep.back ⟨below_of_grown h.below hg (fun k hk => (hr0.lt k hk).1), ?_, ?_⟩
  · intro s hs
    rcases List.mem_cons.1 hs with rfl | hs
    · exact hr
    · exact (hall s hs).keep (fun k hk => hg.block k ((hall s hs).lt k hk).2 (fun e => hap.1 s hs k e.symm hk))
  · refine List.Pairwise.cons (fun s hs k hk hk' => ?_) hap.2
    rcases hn k hk with h1 | h1
    · exact hap.1 s hs k h1 hk'
    · have := ((hall s hs).lt k hk').2; omega

/-! ### variables -/
theorem Sep.var_heap {w0 w : World} {L F : List Res} {g : Nat} {t : TypeId} {cs : List Value} (h : Sep w0 w (L ++ .var g t cs :: F)) : w0.heap.size ≤ g ∧ g < w.heap.size ∧ w.heap[g]? = some (.cells cs.toArray t (0, 0)) := by
  have h1 := h.holds (.var g t cs) (by simp)
  exact ⟨h1.1, (h1.lt g rfl).2, h1.2⟩
theorem Sep.cell {w0 w : World} {L F : List Res} {g : Nat} {t : TypeId} {cs : List Value} (h : Sep w0 w (L ++ .var g t cs :: F)) (j : Nat) (u : Value) (hj : cs[j]? = some u) : w.cell? ⟨g, j, none⟩ = some u := by
  simp [World.cell?, h.var_heap.2.2, hj]
theorem Sep.frozen {w0 w : World} {L F : List Res} {g : Nat} {t : TypeId} {cs : List Value} (h : Sep w0 w (L ++ .var g t cs :: F)) (j : Nat) : w.frozen? ⟨g, j, none⟩ = false := by
  simp [World.frozen?, h.var_heap.2.2]
theorem grownBy_setCell (w : World) (g j : Nat) (u : Value) : w.grownBy (w.setCell ⟨g, j, none⟩ u) (some g) :=
  ⟨rfl, rfl, rfl, by simp [World.setCell], fun k _ hne => Below.heap_setCell _ _ _ _ (fun e => hne (by rw [e]))⟩
theorem heap_set {w : World} {g : Nat} {t : TypeId} {cs : List Value} (h : w.heap[g]? = some (.cells cs.toArray t (0, 0))) (j : Nat) (u : Value) :
    (w.setCell ⟨g, j, none⟩ u).heap[g]? = some (.cells (cs.set j u).toArray t (0, 0)) := by
  simp [World.setCell, Array.getElem?_modify, h, List.setIfInBounds_toArray]
theorem Sep.set {w0 w : World} {L F : List Res} {g : Nat} {t : TypeId} {cs : List Value} (h : Sep w0 w (L ++ .var g t cs :: F)) (j : Nat) (u : Value) : Sep w0 (w.setCell ⟨g, j, none⟩ u) (L ++ .var g t (cs.set j u) :: F) :=
  h.upd (grownBy_setCell w g j u) ⟨h.var_heap.1, heap_set h.var_heap.2.2 j u⟩ (fun _ hk => .inl hk)

/-! ### rows -/
theorem Sep.row {w0 w : World} {L F : List Res} {e sz n : Nat} {v : Value} {cs : List Value} (h : Sep w0 w (L ++ .row e sz v n cs :: F)) : w.ownsRow w0.heap.size e sz v n cs := h.holds (.row e sz v n cs) (by simp)
theorem Sep.row_nil {w0 w : World} {R : List Res} (h : Sep w0 w R) (e sz : Nat) : Sep w0 w (.row e sz (.slice none 0 0) 0 [] :: R) := by
  refine ⟨h.below, ?_, List.Pairwise.cons (fun s hs k hk => by simp [Res.blk, Value.ownBlock] at hk) h.apart⟩
  intro s hs
  rcases List.mem_cons.1 hs with rfl | hs
  · exact World.ownsRow_nil _ _ _ _
  · exact h.holds s hs
/-- A row that an append (or a build, a make) has turned. -/
theorem Sep.grow {w0 w w' : World} {L F : List Res} {e sz n n' : Nat} {v v' : Value} {cs cs' : List Value} (h : Sep w0 w (L ++ .row e sz v n cs :: F)) (hg : w.grownBy w' v.ownBlock) (ho : w'.ownsRow w0.heap.size e sz v' n' cs')
    (hat : v'.ownBlock = v.ownBlock ∨ ∃ b, v'.ownBlock = some b ∧ w.heap.size ≤ b) : Sep w0 w' (L ++ .row e sz v' n' cs' :: F) :=
  h.upd hg ho (fun k hk => by
    rcases hat with hat | ⟨b, hb, hl⟩
    · exact .inl (hat.symm.trans hk)
    · have hk' : v'.ownBlock = some k := hk
      rw [hb] at hk'
      injection hk' with hk'
      exact .inr (hk' ▸ hl))

/-- A slice whose elements' cells read so. -/
def View (w : World) (A : Option Addr) (cs : List Value) : Prop := 0 < cs.length → ∃ ad, A = some ad ∧ ∀ j u, cs[j]? = some u → w.cell? (ad.add j) = some u
theorem View.nil (w : World) (A : Option Addr) : View w A [] := fun h => by simp at h
theorem View.below {w w' : World} {A : Option Addr} {cs : List Value} (h : View w A cs) (hb : Below w.heap.size w w') : View w' A cs := fun h0 => by
  obtain ⟨ad, e, hc⟩ := h h0
  refine ⟨ad, e, fun j u hj => ?_⟩
  rw [hb.cell (World.block_lt_of_cell? w _ (hc j u hj))]
  exact hc j u hj
theorem View.old {w0 w : World} {R : List Res} (hS : Sep w0 w R) {A : Option Addr} {cs : List Value} (h : View w0 A cs) : View w A cs := h.below hS.below
theorem View.of_row {w : World} {base e sz n : Nat} {v : Value} {cs : List Value} (h : w.ownsRow base e sz v n cs) : ∃ A c, v = .slice A n c ∧ n ≤ c ∧ View w A cs := by
  obtain ⟨h1, h2⟩ := h
  rcases h2 with ⟨rfl, rfl⟩ | ⟨g, cap, cur, rfl, hg, hh, hn, hm, hs, ht⟩
  · have : cs = [] := List.eq_nil_of_length_eq_zero (by simpa using h1)
    subst this
    exact ⟨none, 0, rfl, Nat.le_refl _, View.nil _ _⟩
  · refine ⟨_, cap, rfl, hn, fun h0 => ⟨_, rfl, fun j u hj => ?_⟩⟩
    have hjl : j < cs.length := (List.getElem?_eq_some_iff.1 hj).1
    have hc : cur.toList[j]? = some u := by
      rw [← hj, ← ht, List.getElem?_take, if_pos (by omega)]
    have h3 : (⟨g, 0, none⟩ : Addr).add j = ⟨g, j, none⟩ := by
      unfold Addr.add
      by_cases hj0 : j = 0
      · subst hj0; rfl
      · rw [if_neg hj0]; simp
    rw [h3]
    have hc' : cur[j]? = some u := by rw [← Array.getElem?_toList]; exact hc
    simp [World.cell?, hh, hc']
theorem View.drop {w : World} {ad : Addr} {cs : List Value} (h : View w (some ad) cs) (k : Nat) : View w (some (ad.add k)) (cs.drop k) := fun h0 => by
  rw [List.length_drop] at h0
  obtain ⟨ad', e, hc⟩ := h (by omega)
  cases e
  refine ⟨_, rfl, fun j u hj => ?_⟩
  rw [List.getElem?_drop] at hj
  have := hc (k + j) u hj
  rwa [show (ad.add k).add j = ad.add (k + j) from by
    unfold Addr.add
    by_cases hk : k = 0
    · subst hk; simp
    · by_cases hj0 : j = 0
      · subst hj0; simp [hk]
      · rw [if_neg hk, if_neg hj0, if_neg (by omega)]; simp [Nat.add_assoc]]
theorem View.take {w : World} {A : Option Addr} {cs : List Value} (h : View w A cs) (k : Nat) : View w A (cs.take k) := fun h0 => by
  rw [List.length_take] at h0
  obtain ⟨ad, e, hc⟩ := h (by omega)
  refine ⟨ad, e, fun j u hj => hc j u ?_⟩
  rw [List.getElem?_take] at hj
  split at hj
  · exact hj
  · cases hj
theorem View.of_var {w : World} {g : Nat} {t : TypeId} {cs : List Value} (h : w.heap[g]? = some (.cells cs.toArray t (0, 0))) : View w (some ⟨g, 0, none⟩) cs := fun _ => by
  refine ⟨_, rfl, fun j u hj => ?_⟩
  have h3 : (⟨g, 0, none⟩ : Addr).add j = ⟨g, j, none⟩ := by
    unfold Addr.add
    by_cases hj0 : j = 0
    · subst hj0; rfl
    · rw [if_neg hj0]; simp
  rw [h3]
  simp [World.cell?, h, hj]
theorem Sep.view {w0 w : World} {L F : List Res} {g : Nat} {t : TypeId} {cs : List Value} (h : Sep w0 w (L ++ .var g t cs :: F)) : View w (some ⟨g, 0, none⟩) cs := View.of_var h.var_heap.2.2
theorem Sep.view_new {w0 w : World} {R : List Res} (h : Sep w0 w R) (cs : List Value) (t : TypeId) {g : Nat} (hg : g = w.heap.size) : View (w.alloc (.cells cs.toArray t)) (some ⟨g, 0, none⟩) cs := by
  subst hg
  exact (h.alloc cs t).view (L := [])
/-- A slice literal: a row of its own. -/
theorem Sep.lit {w0 w : World} {R : List Res} (h : Sep w0 w R) (e sz n : Nat) (cs : List Value) (hl : cs.length = n * sz) (hm : n ≤ maxLen) : Sep w0 (w.alloc (.cells cs.toArray e)) (.row e sz (.slice (some ⟨w.heap.size, 0, none⟩) n n) n cs :: R) := by
  refine h.add (World.grownBy_alloc _ _ _) ?_ (fun k hk => by simp [Res.blk, Value.ownBlock] at hk; omega)
  have := World.ownsRow_lit (base := w0.heap.size) (e := e) (size := sz) w cs.toArray n h.size hm (by simpa using hl)
  simpa [Res.holds] using this

theorem View.cut {w : World} {ad A1 : Addr} {cs : List Value} {cap : Nat} (h : View w (some ad) cs) (k m : Nat) (hA : k < cap → A1 = ad.add k) (hc : cs.length ≤ cap) : View w (some A1) ((cs.drop k).take m) := fun h0 => by
  rw [List.length_take, List.length_drop] at h0
  rw [hA (by omega)]
  exact (h.drop k).take m (by rw [List.length_take, List.length_drop]; omega)
section
variable {P : Program} {w0 w : World} {L F : List Res} {e sz n : Nat} {v : Value} {cs : List Value}
theorem Sep.append (hS : Sep w0 w (L ++ .row e sz v n cs :: F)) (t ty : TypeId) (z : Value) (bytes : Nat) (ht : P.underlying t = some (.slice e))
    (hinfo : (P.info? e).map (fun i => (i.zero, i.size, i.bytes)) = some (some z, sz, bytes)) (hz : z.cells.size = sz) (hs0 : 0 < sz) (hb0 : 0 < bytes)
    (A : Option Addr) (m c : Nat) (news : List Value) (hV : View w A news) (hl : news.length = m * sz) (h1 : ∀ u ∈ news, u.oneCell' = true) (hby : (n + m) * bytes ≤ 140737488355328) :
    ∃ v1 w1, (Builtin.append_ #[t, t] ty #[v, .slice A m c]).run P w = .ok v1 w1 ∧ Sep w0 w1 (L ++ .row e sz v1 (n + m) (cs ++ news) :: F) := by
  obtain ⟨i0, hi, hzz⟩ := Option.map_eq_some_iff.1 hinfo
  simp only [Prod.mk.injEq] at hzz
  obtain ⟨hz0, hz1, hz2⟩ := hzz
  have hown := hS.row
  have hlen : n + m ≤ 140737488355328 := Nat.le_trans (Nat.le_mul_of_pos_right _ hb0) hby
  rcases A with _ | ad
  · have h0 : news = [] := by
      rcases news with _ | ⟨x, r⟩
      · rfl
      · obtain ⟨ad, h, _⟩ := hV (by simp)
        cases h
    subst h0
    have hm0 : m = 0 := by
      simp only [List.length_nil] at hl
      rcases Nat.eq_zero_or_pos m with h | h
      · exact h
      · have := Nat.mul_pos h hs0; omega
    subst hm0
    refine ⟨v, w, ?_, by simpa using hS⟩
    rcases hown.2 with ⟨rfl, hn⟩ | ⟨g, cap, cur, rfl, _, _, hnc, _⟩
    · simp [Builtin.append_, run_underlying ht, sizeOf, typeInfo, hi, Builtin.lenOf, Builtin.firstCells]
    · simp [Builtin.append_, run_underlying ht, sizeOf, typeInfo, hi, Builtin.lenOf, Builtin.firstCells, hnc, storeCells]
  · have hnews : ∀ j u, news[j]? = some u → w.cell? (ad.add j) = some u := by
      intro j u hj
      obtain ⟨ad', he, h⟩ := hV (by have := (List.getElem?_eq_some_iff.1 hj).1; omega)
      cases he
      exact h j u hj
    obtain ⟨v1, w1, hrun, h2, hg, _, hat⟩ := run_append_own_at (P := P) w w0.heap.size t ty e i0 z sz bytes ht hi hz0 hz1 hz2 hz hs0 v n cs hown ad m c news hl hnews h1 (by simp only [maxLen]; omega) hby hS.size
    refine ⟨v1, w1, hrun, hS.grow hg h2 ?_⟩
    rcases hat with hat | hat
    · exact .inl hat
    · exact .inr ⟨_, hat, Nat.le_refl _⟩

variable {ops : Array Oper} {rest : List Oper} {o : Oper} {a : Act} {Q : Exit → Act → World → Prop} {Kc : Act → World → Prop}
/-- An append, in a walk in the text's order. -/
theorem append_list (hS : Sep w0 w (L ++ .row e sz v n cs :: F)) (s x : Operand) (t : TypeId) (hgd : o.guard = none) (ho : o.op = .call { callee := .builtin .append, args := #[s, x], argTypes := #[t, t] })
    (z : Value) (bytes : Nat) (ht : P.underlying t = some (.slice e))
    (hinfo : (P.info? e).map (fun i => (i.zero, i.size, i.bytes)) = some (some z, sz, bytes)) (hz : z.cells.size = sz) (hs0 : 0 < sz) (hb0 : 0 < bytes) (hs : a.eval s = v)
    (A : Option Addr) (m c : Nat) (news : List Value) (hx : a.eval x = .slice A m c) (hV : View w A news) (hl : news.length = m * sz) (h1 : ∀ u ∈ news, u.oneCell' = true) (hby : (n + m) * bytes ≤ 140737488355328)
    (h : ∀ v1 w1, Sep w0 w1 (L ++ .row e sz v1 (n + m) (cs ++ news) :: F) → wpList P ops Q rest (a.put o.dst v1) w1) : wpList P ops Q (o :: rest) a w := by
  obtain ⟨v1, w1, hrun, h2⟩ := hS.append (P := P) t o.type z bytes ht hinfo hz hs0 hb0 A m c news hV hl h1 hby
  refine wpList_plain hgd fun K hK => ?_
  unfold Oper.wp execOp
  simp only [ho, resolve, invoke, builtin, Sem.run_bind, Sem.run_pure, Result.andThen_ok, List.map_toArray, List.map_cons, List.map_nil, hs, hx, hrun]
  exact hK _ _ (h v1 w1 h2)
/-- An append, as one step of a region that draws its order. -/
theorem append_step (hS : Sep w0 w (L ++ .row e sz v n cs :: F)) (s x : Operand) (t : TypeId) (hw : Region.wanted o (yielded ops a.tmps) = true) (ho : o.op = .call { callee := .builtin .append, args := #[s, x], argTypes := #[t, t] })
    (z : Value) (bytes : Nat) (ht : P.underlying t = some (.slice e))
    (hinfo : (P.info? e).map (fun i => (i.zero, i.size, i.bytes)) = some (some z, sz, bytes)) (hz : z.cells.size = sz) (hs0 : 0 < sz) (hb0 : 0 < bytes) (hs : a.eval s = v)
    (A : Option Addr) (m c : Nat) (news : List Value) (hx : a.eval x = .slice A m c) (hV : View w A news) (hl : news.length = m * sz) (h1 : ∀ u ∈ news, u.oneCell' = true) (hby : (n + m) * bytes ≤ 140737488355328)
    (h : ∀ v1 w1, Sep w0 w1 (L ++ .row e sz v1 (n + m) (cs ++ news) :: F) → Kc (a.put o.dst v1) w1) : if Region.wanted o (yielded ops a.tmps) = true then Oper.wp P o a w Kc Q else Kc (a.put o.dst undef) w := by
  obtain ⟨v1, w1, hrun, h2⟩ := hS.append (P := P) t o.type z bytes ht hinfo hz hs0 hb0 A m c news hV hl h1 hby
  rw [if_pos hw]
  unfold Oper.wp execOp
  simp only [ho, resolve, invoke, builtin, Sem.run_bind, Sem.run_pure, Result.andThen_ok, List.map_toArray, List.map_cons, List.map_nil, hs, hx, hrun]
  exact h v1 w1 h2
end

/-- Straight on, and nowhere else. -/
def Exit.only (K : Act → World → Prop) : Exit → Act → World → Prop
  | .normal, a, w => K a w
  | _, _, _ => False
end Go.Proofs.Ytgljfjjainlhgaa.Sp
