/- Contracts of functions over the abstract machine. No conditions: lemmas alone. -/
import Derived.Test.YtbdejnnbpdgjlaaPeerXLibD
import Derived.Test.YtbdejnnbpdgjlaaPeerXP0
import Derived.Test.YtbdejnnbpdgjlaaPeerXP1
namespace Go.Proofs.Ytbdejnnbpdgjlaa.Ax
open Go Go.RowKit
open Nat renaming reduceAdd → ν1, reduceMul → ν2, reduceLeDiff → ν3, reduceLT → ν4, reduceSub → ν5
open Int renaming reduceNe → ζ1, reduceEq → ζ2, reduceLE → ζ3, reduceLT → ζ4, reduceToNat → ζ5
set_option linter.unusedVariables false
set_option linter.unusedSimpArgs false
set_option maxRecDepth 100000
set_option maxHeartbeats 20000000
attribute [local irreducible] thenA blockA scopeA retA AL AW AD ADL AH clrK CallA apure aload bload appK ptrK fnK ares szOk planOk okOps
theorem getD_lt {xs : List Int} {i : Nat} (h : i < xs.length) : xs.getD i 0 = xs[i] := by
 rw [List.getD_eq_getElem?_getD, List.getElem?_eq_getElem h]; rfl
theorem PermOn.all {lo hi : Nat} {xs ys : List Int} (h : PermOn lo hi xs ys) (p : Int → Prop) (hp : ∀ i, lo ≤ i → i < hi → i < xs.length → p (xs.getD i 0)) : ∀ i, lo ≤ i → i < hi → i < xs.length → p (ys.getD i 0) := by
 intro i h1 h2 h3
 have hl := h.len
 have key : ((ys.take hi).drop lo ++ ((ys.take hi).take lo ++ ys.drop hi)).Perm ((xs.take hi).drop lo ++ ((ys.take hi).take lo ++ ys.drop hi)) := by
  have e1 : ((ys.take hi).take lo) = ((xs.take hi).take lo) := by
   apply List.ext_getElem?
   intro j
   simp only [List.getElem?_take]
   by_cases hj : j < lo
   ·rw [if_pos hj, if_pos hj]
    by_cases hj2 : j < hi
    ·rw [if_pos hj2, if_pos hj2]
     rcases Nat.lt_or_ge j xs.length with hx | hx
     ·have := h.out j (.inl hj)
      rw [getD_lt (by omega), getD_lt hx] at this
      rw [List.getElem?_eq_getElem (by omega), List.getElem?_eq_getElem hx, this]
     ·rw [List.getElem?_eq_none_iff.2 (by omega), List.getElem?_eq_none_iff.2 hx]
    ·rw [if_neg hj2, if_neg hj2]
   ·rw [if_neg hj, if_neg hj]
  have e2 : ys.drop hi = xs.drop hi := by
   apply List.ext_getElem?
   intro j
   simp only [List.getElem?_drop]
   rcases Nat.lt_or_ge (hi + j) xs.length with hx | hx
   ·have := h.out (hi + j) (.inr (by omega))
    rw [getD_lt (by omega), getD_lt hx] at this
    rw [List.getElem?_eq_getElem (by omega), List.getElem?_eq_getElem hx, this]
   ·rw [List.getElem?_eq_none_iff.2 (by omega), List.getElem?_eq_none_iff.2 hx]
  have a1 : ((ys.take hi).drop lo ++ ((ys.take hi).take lo ++ ys.drop hi)).Perm ys := by
   have : ys = ((ys.take hi).take lo ++ (ys.take hi).drop lo) ++ ys.drop hi := by rw [List.take_append_drop, List.take_append_drop]
   conv => rhs; rw [this]
   rw [← List.append_assoc]
   exact List.Perm.append_right _ List.perm_append_comm
  have a2 : ((xs.take hi).drop lo ++ ((xs.take hi).take lo ++ xs.drop hi)).Perm xs := by
   have : xs = ((xs.take hi).take lo ++ (xs.take hi).drop lo) ++ xs.drop hi := by rw [List.take_append_drop, List.take_append_drop]
   conv => rhs; rw [this]
   rw [← List.append_assoc]
   exact List.Perm.append_right _ List.perm_append_comm
  rw [← e1, ← e2] at a2
  exact a1.trans (h.perm.trans a2.symm)
 have key := (List.perm_append_right_iff _).1 key
 have hm : ys.getD i 0 ∈ (ys.take hi).drop lo := by
  rw [getD_lt (by omega)]
  refine List.mem_iff_getElem?.2 ⟨i - lo, ?_⟩
  rw [List.getElem?_drop, List.getElem?_take, if_pos (by omega), show lo + (i - lo) = i by omega, List.getElem?_eq_getElem (by omega)]
 obtain ⟨j, hj⟩ := List.mem_iff_getElem?.1 (key.subset hm)
 rw [List.getElem?_drop, List.getElem?_take] at hj
 split at hj
 ·have hjl := (List.getElem?_eq_some_iff.1 hj).1
  have := hp (lo + j) (by omega) (by omega) hjl
  rw [getD_lt hjl, (List.getElem?_eq_some_iff.1 hj).2] at this
  exact this
 ·cases hj
def hget (xs : List Int) (f i : Nat) : Int := xs.getD (f + i) 0
def HeapAt (xs : List Int) (f hi i : Nat) : Prop := (2 * i + 1 < hi → hget xs f (2 * i + 1) ≤ hget xs f i) ∧ (2 * i + 2 < hi → hget xs f (2 * i + 2) ≤ hget xs f i)
def HeapFrom (xs : List Int) (f lo hi : Nat) : Prop := ∀ i, lo ≤ i → HeapAt xs f hi i
structure Sift (xs : List Int) (f lo hi r : Nat) : Prop where
 ge : lo ≤ r
 at_ : ∀ i, lo ≤ i → i ≠ r → HeapAt xs f hi i
 up : ∀ p, lo ≤ p → (r = 2 * p + 1 ∨ r = 2 * p + 2) → (2 * r + 1 < hi → hget xs f (2 * r + 1) ≤ hget xs f p) ∧ (2 * r + 2 < hi → hget xs f (2 * r + 2) ≤ hget xs f p)
theorem Sift.start {xs : List Int} {f lo hi : Nat} (h : HeapFrom xs f (lo + 1) hi) : Sift xs f lo hi lo :=
 ⟨Nat.le_refl _, fun i h1 h2 => h i (by omega), fun p h1 h2 => by omega⟩
theorem Sift.done {xs : List Int} {f lo hi r : Nat} (h : Sift xs f lo hi r) (hr : HeapAt xs f hi r) : HeapFrom xs f lo hi := by
 intro i hi
 by_cases e : i = r
 ·subst e; exact hr
 ·exact h.at_ i hi e
theorem hget_swap {xs : List Int} {f i j k : Nat} (hi : f + i < xs.length) (hj : f + j < xs.length) (hk : f + k < xs.length) : hget (swap xs (f + i) (f + j)) f k = if k = j then hget xs f i else if k = i then hget xs f j else hget xs f k := by
 unfold hget
 rw [swap_get hi hj hk]
 by_cases h1 : k = j
 ·rw [if_pos (by omega), if_pos h1]
 ·rw [if_neg (by omega), if_neg h1]
  by_cases h2 : k = i
  ·rw [if_pos (by omega), if_pos h2]
  ·rw [if_neg (by omega), if_neg h2]
theorem Sift.step {xs : List Int} {f lo hi r c : Nat} (h : Sift xs f lo hi r) (hl : f + hi ≤ xs.length) (hc : c = 2 * r + 1 ∨ c = 2 * r + 2) (hch : c < hi)
  (hmax : (2 * r + 1 < hi → hget xs f (2 * r + 1) ≤ hget xs f c) ∧ (2 * r + 2 < hi → hget xs f (2 * r + 2) ≤ hget xs f c)) (hlt : hget xs f r < hget xs f c) : Sift (swap xs (f + r) (f + c)) f lo hi c := by
 have hg : ∀ k, k < hi → hget (swap xs (f + r) (f + c)) f k = if k = c then hget xs f r else if k = r then hget xs f c else hget xs f k := fun k hk => hget_swap (by omega) (by omega) (by omega)
 have hge := h.ge
 refine ⟨by omega, fun i h1 h2 => ?_, fun p h1 h2 => ?_⟩
 ·constructor
  ·intro h3
   rw [hg _ h3, hg i (by omega), if_neg h2]
   by_cases e : i = r
   ·subst e
    rw [if_pos rfl]
    by_cases e2 : 2 * i + 1 = c
    ·rw [if_pos e2]; omega
    ·rw [if_neg e2, if_neg (by omega)]; exact hmax.1 h3
   ·rw [if_neg e, if_neg (by omega)]
    by_cases e3 : 2 * i + 1 = r
    ·rw [if_pos e3]
     have := h.up i h1 (.inl e3.symm)
     rcases hc with rfl | rfl
     ·exact this.1 hch
     ·exact this.2 hch
    ·rw [if_neg e3]; exact (h.at_ i h1 e).1 h3
  ·intro h3
   rw [hg _ h3, hg i (by omega), if_neg h2]
   by_cases e : i = r
   ·subst e
    rw [if_pos rfl]
    by_cases e2 : 2 * i + 2 = c
    ·rw [if_pos e2]; omega
    ·rw [if_neg e2, if_neg (by omega)]; exact hmax.2 h3
   ·rw [if_neg e, if_neg (by omega)]
    by_cases e3 : 2 * i + 2 = r
    ·rw [if_pos e3]
     have := h.up i h1 (.inr e3.symm)
     rcases hc with rfl | rfl
     ·exact this.1 hch
     ·exact this.2 hch
    ·rw [if_neg e3]; exact (h.at_ i h1 e).2 h3
 ·have hpr : p = r := by omega
  subst hpr
  constructor
  ·intro h3
   rw [hg _ h3, hg p (by omega), if_neg (by omega), if_neg (by omega), if_neg (by omega), if_pos rfl]
   exact (h.at_ c (by omega) (by omega)).1 h3
  ·intro h3
   rw [hg _ h3, hg p (by omega), if_neg (by omega), if_neg (by omega), if_neg (by omega), if_pos rfl]
   exact (h.at_ c (by omega) (by omega)).2 h3
theorem HeapFrom.top {xs : List Int} {f hi : Nat} (h : HeapFrom xs f 0 hi) : ∀ i, i < hi → hget xs f i ≤ hget xs f 0 := by
 intro i
 induction i using Nat.strongRecOn with
 | _ i ih =>
  intro hi
  by_cases h0 : i = 0
  ·subst h0; exact Int.le_refl _
  ·have h1 := ih ((i - 1) / 2) (by omega) (by omega)
   have h2 := h ((i - 1) / 2) (by omega)
   rcases (by omega : 2 * ((i - 1) / 2) + 1 = i ∨ 2 * ((i - 1) / 2) + 2 = i) with e | e
   ·have := h2.1 (by omega); rw [e] at this; omega
   ·have := h2.2 (by omega); rw [e] at this; omega
theorem HeapFrom.half (xs : List Int) (f hi lo : Nat) (h : hi ≤ 2 * lo + 1) : HeapFrom xs f lo hi := fun i hl => ⟨fun h => by omega, fun h => by omega⟩
theorem HeapFrom.pop {xs : List Int} {f k : Nat} (h : HeapFrom xs f 0 (k + 1)) (hl : f + k < xs.length) : HeapFrom (swap xs f (f + k)) f 1 k := by
 have hg : ∀ i, i < k + 1 → hget (swap xs f (f + k)) f i = if i = k then hget xs f 0 else if i = 0 then hget xs f k else hget xs f i := fun i hi => hget_swap (i := 0) (by omega) (by omega) (by omega)
 intro i h1
 constructor
 ·intro h2
  rw [hg _ (by omega), hg _ (by omega), if_neg (by omega), if_neg (by omega), if_neg (by omega), if_neg (by omega)]
  exact (h i (by omega)).1 (by omega)
 ·intro h2
  rw [hg _ (by omega), hg _ (by omega), if_neg (by omega), if_neg (by omega), if_neg (by omega), if_neg (by omega)]
  exact (h i (by omega)).2 (by omega)
structure PQ (a b : Nat) (xs : List Int) (a' b' : Nat) (zs : List Int) : Prop where
 perm : PermOn a b xs zs
 clo : ∀ ws, PermOn a' b' zs ws → SortOn a' b' ws → SortOn a b ws
 low : ∀ i j, i < a' → a' ≤ j → j < b' → zs.getD i 0 ≤ zs.getD j 0
 h1 : a ≤ a'
 h2 : b' ≤ b
theorem PQ.start {a b : Nat} {xs : List Int} (h : ∀ i j, i < a → a ≤ j → j < b → xs.getD i 0 ≤ xs.getD j 0) : PQ a b xs a b xs :=
 ⟨PermOn.refl _ _ _, fun ws _ h => h, h, Nat.le_refl _, Nat.le_refl _⟩
theorem PQ.low_turn {a b : Nat} {xs ys : List Int} (h : ∀ i j, i < a → a ≤ j → j < b → xs.getD i 0 ≤ xs.getD j 0) (k : PermOn a b xs ys) (hb : b ≤ xs.length) : ∀ i j, i < a → a ≤ j → j < b → ys.getD i 0 ≤ ys.getD j 0 := by
 intro i j h1 h2 h3
 rw [k.out i (.inl h1)]
 exact k.all (fun y => xs.getD i 0 ≤ y) (fun q q1 q2 q3 => h i q h1 q1 q2) j h2 h3 (by omega)
theorem PQ.turn {a b a' b' : Nat} {xs zs ys : List Int} (h : PQ a b xs a' b' zs) (k : PermOn a' b' zs ys) (hb : b ≤ xs.length) : PQ a b xs a' b' ys := by
 have e1 := h.h1
 have e2 := h.h2
 have hl := h.perm.len
 exact ⟨h.perm.trans (k.mono e1 e2), fun ws p s => h.clo ws (k.trans p) s, PQ.low_turn h.low k (by omega), e1, e2⟩
theorem PQ.left {a b a' b' k : Nat} {xs zs : List Int} (h : PQ a b xs a' b' zs) (hb : b ≤ xs.length) (h1 : a' ≤ k) (h2 : k ≤ b') (hs : SortOn a' k zs) (hm : ∀ i j, a' ≤ i → i < k → k ≤ j → j < b' → zs.getD i 0 ≤ zs.getD j 0) : PQ a b xs k b' zs := by
 have e1 := h.h1
 have e2 := h.h2
 have hl := h.perm.len
 refine ⟨h.perm, fun ws p s => h.clo ws (p.mono h1 (Nat.le_refl _)) fun i j i1 ij j1 => ?_, fun i j i1 j1 j2 => ?_, by omega, by omega⟩
 ·by_cases hj : j < k
  ·rw [p.out i (.inl (by omega)), p.out j (.inl hj)]; exact hs i j i1 ij hj
  ·by_cases hi : i < k
   ·rw [p.out i (.inl hi)]
    exact p.all (fun y => zs.getD i 0 ≤ y) (fun q q1 q2 q3 => hm i q i1 hi q1 q2) j (by omega) j1 (by omega)
   ·exact s i j (by omega) ij j1
 ·by_cases hi : i < a'
  ·exact h.low i j hi (by omega) j2
  ·exact hm i j (by omega) i1 j1 j2
theorem PQ.right {a b a' b' k : Nat} {xs zs : List Int} (h : PQ a b xs a' b' zs) (hb : b ≤ xs.length) (h1 : a' ≤ k) (h2 : k ≤ b') (hs : SortOn k b' zs) (hm : ∀ i j, a' ≤ i → i < k → k ≤ j → j < b' → zs.getD i 0 ≤ zs.getD j 0) : PQ a b xs a' k zs := by
 have e1 := h.h1
 have e2 := h.h2
 have hl := h.perm.len
 refine ⟨h.perm, fun ws p s => h.clo ws (p.mono (Nat.le_refl _) h2) fun i j i1 ij j1 => ?_, fun i j i1 j1 j2 => h.low i j i1 j1 (by omega), by omega, by omega⟩
 by_cases hi : k ≤ i
 ·rw [p.out i (.inr hi), p.out j (.inr (by omega))]; exact hs i j hi ij j1
 ·by_cases hj : k ≤ j
  ·rw [p.out j (.inr hj)]
   exact p.all (fun y => y ≤ zs.getD j 0) (fun q q1 q2 q3 => hm q j q1 q2 hj j1) i i1 (by omega) (by omega)
  ·exact s i j i1 ij (by omega)
structure PartAt (a b m : Nat) (zs : List Int) : Prop where
 ge : a ≤ m
 lt : m < b
 lo : ∀ i, a ≤ i → i < m → zs.getD i 0 ≤ zs.getD m 0
 hi : ∀ j, m < j → j < b → zs.getD m 0 ≤ zs.getD j 0
theorem PQ.goLeft {a b a' b' m : Nat} {xs zs ys : List Int} (h : PQ a b xs a' b' zs) (hb : b ≤ xs.length) (p : PartAt a' b' m zs) (k : PermOn a' m zs ys) (s : SortOn a' m ys) : PQ a b xs (m + 1) b' ys := by
 have e2 := h.h2
 have hl := h.perm.len
 have hm := p.lt
 have hg := p.ge
 have lo : ∀ i, a' ≤ i → i < m → ys.getD i 0 ≤ zs.getD m 0 := fun i i1 i2 => k.all (fun y => y ≤ zs.getD m 0) (fun q q1 q2 _ => p.lo q q1 q2) i i1 i2 (by omega)
 have em : ys.getD m 0 = zs.getD m 0 := k.out m (.inr (Nat.le_refl _))
 refine (h.turn (k.mono (Nat.le_refl _) (by omega)) hb).left hb (by omega) (by omega) (fun i j i1 ij j1 => ?_) (fun i j i1 i2 j1 j2 => ?_)
 ·by_cases hj : j = m
  ·rw [hj, em]; exact lo i i1 (by omega)
  ·exact s i j i1 ij (by omega)
 ·have := p.hi j (by omega) j2
  rw [k.out j (.inr (by omega))]
  by_cases hi : i = m
  ·rw [hi, em]; exact this
  ·have := lo i i1 (by omega); omega
theorem PQ.goRight {a b a' b' m : Nat} {xs zs ys : List Int} (h : PQ a b xs a' b' zs) (hb : b ≤ xs.length) (p : PartAt a' b' m zs) (k : PermOn (m + 1) b' zs ys) (s : SortOn (m + 1) b' ys) : PQ a b xs a' m ys := by
 have e2 := h.h2
 have hl := h.perm.len
 have hm := p.lt
 have hg := p.ge
 have hi : ∀ i, m + 1 ≤ i → i < b' → zs.getD m 0 ≤ ys.getD i 0 := fun i i1 i2 => k.all (fun y => zs.getD m 0 ≤ y) (fun q q1 q2 _ => p.hi q q1 q2) i i1 i2 (by omega)
 have em : ys.getD m 0 = zs.getD m 0 := k.out m (.inl (by omega))
 refine (h.turn (k.mono (by omega) (Nat.le_refl _)) hb).right hb (by omega) (by omega) (fun i j i1 ij j1 => ?_) (fun i j i1 i2 j1 j2 => ?_)
 ·by_cases hi' : i = m
  ·rw [hi', em]; exact hi j (by omega) j1
  ·exact s i j (by omega) ij j1
 ·have := p.lo i i1 i2
  rw [k.out i (.inl (by omega))]
  by_cases hj : j = m
  ·rw [hj, em]; exact this
  ·have := hi j (by omega) j2; omega
theorem PQ.goEqual {a b a' b' m : Nat} {xs zs ys : List Int} {p : Int} (h : PQ a b xs a' b' zs) (hb : b ≤ xs.length) (k : PermOn a' b' zs ys) (hp : ∀ i, a' ≤ i → i < b' → p ≤ zs.getD i 0) (h1 : a' ≤ m) (h2 : m ≤ b')
  (hlo : ∀ i, a' ≤ i → i < m → ys.getD i 0 ≤ p) : PQ a b xs m b' ys := by
 have e2 := h.h2
 have hl := h.perm.len
 have hy : ∀ i, a' ≤ i → i < b' → p ≤ ys.getD i 0 := fun i i1 i2 => k.all (fun y => p ≤ y) (fun q q1 q2 _ => hp q q1 q2) i i1 i2 (by omega)
 refine (h.turn k hb).left hb h1 h2 (fun i j i1 ij j1 => ?_) (fun i j i1 i2 j1 j2 => ?_)
 ·have := hlo i i1 (by omega); have := hy j (by omega) (by omega); omega
 ·have := hlo i i1 (by omega); have := hy j (by omega) (by omega); omega
theorem heap_next {ys ws : List Int} {a i e : Nat} (hH : HeapFrom ys a 0 (i + 1)) (hS : SortOn (a + (i + 1)) e ys) (hC : ∀ p q, a ≤ p → p < a + (i + 1) → a + (i + 1) ≤ q → q < e → ys.getD p 0 ≤ ys.getD q 0) (hl : e ≤ ys.length) (hi : a + i < e)
  (hP : PermOn a (a + i) (swap ys a (a + i)) ws) : SortOn (a + i) e ws ∧ ∀ p q, a ≤ p → p < a + i → a + i ≤ q → q < e → ws.getD p 0 ≤ ws.getD q 0 := by
 have hg : ∀ k, k < e → (swap ys a (a + i)).getD k 0 = if k = a + i then ys.getD a 0 else if k = a then ys.getD (a + i) 0 else ys.getD k 0 := fun k hk => swap_get (by omega) (by omega) (by omega)
 have top : ∀ p, a ≤ p → p < a + (i + 1) → ys.getD p 0 ≤ ys.getD a 0 := fun p h1 h2 => by
  have := hH.top (p - a) (by omega)
  unfold hget at this
  rwa [show a + (p - a) = p by omega, Nat.add_zero] at this
 have zlen : (swap ys a (a + i)).length = ys.length := swap_length _ _ _
 have zin : ∀ q, a ≤ q → q < a + i → ∃ p, a ≤ p ∧ p < a + (i + 1) ∧ (swap ys a (a + i)).getD q 0 = ys.getD p 0 := fun q h1 h2 => by
  rw [hg q (by omega), if_neg (by omega)]
  by_cases e1 : q = a
  ·exact ⟨a + i, by omega, by omega, if_pos e1⟩
  ·exact ⟨q, h1, by omega, if_neg e1⟩
 have ei : ws.getD (a + i) 0 = ys.getD a 0 := by rw [hP.out _ (.inr (Nat.le_refl _)), hg _ hi, if_pos rfl]
 have eo : ∀ q, a + i < q → q < e → ws.getD q 0 = ys.getD q 0 := fun q h1 h2 => by rw [hP.out _ (.inr (by omega)), hg _ h2, if_neg (by omega), if_neg (by omega)]
 refine ⟨fun p q h1 h2 h3 => ?_, fun p q h1 h2 h3 h4 => ?_⟩
 ·rw [eo q (by omega) h3]
  by_cases e1 : p = a + i
  ·rw [e1, ei]; exact hC a q (by omega) (by omega) (by omega) h3
  ·rw [eo p (by omega) (by omega)]; exact hS p q (by omega) h2 h3
 ·by_cases e1 : q = a + i
  ·rw [e1, ei]
   exact hP.all (fun y => y ≤ ys.getD a 0) (fun x x1 x2 _ => by obtain ⟨p', p1, p2, p3⟩ := zin x x1 x2; rw [p3]; exact top p' p1 p2) p h1 h2 (by omega)
  ·rw [eo q (by omega) h4]
   exact hP.all (fun y => y ≤ ys.getD q 0) (fun x x1 x2 _ => by obtain ⟨p', p1, p2, p3⟩ := zin x x1 x2; rw [p3]; exact hC p' q p1 p2 (by omega) h4) p h1 h2 (by omega)
theorem d141_L2 {g n : Prop} (k : n) (h : n → g := by first | exact AW.dr (id := 4) (by rfl) [0, 1, 2, 3, 4, 5] (by kernel_rfl) (by kernel_rfl)) : g := h k
theorem a141_L2 {g n : Prop} (k : n) (h : n → g := by first | exact AH.ca (dst := some 10) rfl) : g := h k
def wordAt (xs : List Int) (i : Nat) : Int := xs.getD i 0 * 16777216 + xs.getD (i + 1) 0 * 65536 + xs.getD (i + 2) 0 * 256 + xs.getD (i + 3) 0
def words (xs : List Int) (k : Nat) : List Int := (List.range k).map fun j => wordAt xs (4 * j)
theorem words_succ (xs : List Int) (k : Nat) : words xs (k + 1) = words xs k ++ [wordAt xs (4 * k)] := by simp [words, List.range_succ]
theorem words_length (xs : List Int) (k : Nat) : (words xs k).length = k := by simp [words]
theorem getD_drop_take (xs : List Int) {a n i : Nat} (h : i < n) : ((xs.drop a).take n).getD i 0 = xs.getD (a + i) 0 := by
 rw [List.getD_eq_getElem?_getD, List.getD_eq_getElem?_getD, List.getElem?_take, if_pos h, List.getElem?_drop]
theorem list_spec (v : Value) (xs : List Int) (M : Mem) (hv : Sl M v 1 (ints .u8 xs)) (hl : xs.length % 4 = 0) (hx : xs.length ≤ 100000) (hb : ∀ x ∈ xs, 0 ≤ x ∧ x ≤ 255) : CallA Try.prog 141 [v] M fun r M' => New M M' r 1 (ints .u32 (words xs (xs.length / 4))) ∧ Fr M M' [] := by
 have hs := hv.isSl
 have hn := hv.lnI
 (refine CallA.of_body Try.func141 rfl (by rfl) ?_; simp only [Try.ntmps141, List.length_cons, List.length_nil, List.replicate, List.cons_append, List.nil_append, Nat.reduceSub, Nat.reduceAdd])
 (repeat (first | refine st ?_ | refine σa ?_ | refine d141_L2 ?_ | ((first | refine a141_L2 ?_ | refine σb ?_ | refine σc ?_); simp (disch := omega) only [push_cast, ↓reduceIte, reduceCtorEq, ν1, ν2, ν3, ν4, ν5, ζ1, ζ2, ζ3, ζ4, ζ5])))
 refine (chunk_spec v _ hs).mono ?_
 rintro r M1 ⟨rfl, rfl⟩
 (repeat (first | refine st ?_ | refine σa ?_ | refine d141_L2 ?_ | ((first | refine a141_L2 ?_ | refine σb ?_ | refine σc ?_); simp (disch := omega) only [push_cast, ↓reduceIte, reduceCtorEq, ν1, ν2, ν3, ν4, ν5, ζ1, ζ2, ζ3, ζ4, ζ5])))
 have hvk : ∀ M', Fr M M' [] → Sl M' v 1 (ints .u8 xs) := fun M' f => hv.keep f (by simp)
 have hlen : (M ++ [Blk.box [.slice none 0 0]] ++ [Blk.box [v], Blk.box [.int .i64 4]]).length = M.length + 3 := by simp
 have hn1 : (M ++ [Blk.box [.slice none 0 0]]).length = M.length + 1 := by simp
 refine AW.rangeN (fun k M' => Fr M M' [] ∧ At M' (M.length + 1) (.box [v]) ∧ At M' (M.length + 2) (.box [.int .i64 4]) ∧ ∃ out, At M' M.length (.box [out]) ∧ New M M' out 1 (ints .u32 (words xs k)) ∧ ∀ b ∈ blkOf out, M.length + 3 < b)
  (fun k => subsl v 1 (4 * k) (4 * k + min 4 (xs.length - 4 * k)) (min 4 (xs.length - 4 * k))) (xs.length / 4) rfl rfl rfl rfl rfl ?_ ?_ ?_ ?_ ?_
 ·rintro k M' B ⟨h1, h2, h3, out, h4, h5, h6⟩
  have hf := Fr.set M' (M.length + 3) B
  rw [hlen]
  refine ⟨(h1.trans hf).cut (by intro x hx hlt; simp at hx; omega), h2.keep hf (by simp), h3.keep hf (by simp), out, h4.keep hf (by simp), h5.keep hf (fun b hb hx => ?_), h6⟩
  have := h6 b hb
  simp at hx
  omega
 ·intro JJ hJJ hy M' h0
  have hq : (xs.length + 3) / 4 = xs.length / 4 := by omega
  rw [hn1]
  have := chunk1_spec (l := (M ++ [Blk.box [.slice none 0 0]] ++ [Blk.box [v], Blk.box [.int .i64 4]]).length) (b1 := M.length + 1) (b2 := M.length + 2) (J := JJ) hs hn hx (fun k M' h => ⟨(hJJ k M' h).2.1, (hJJ k M' h).2.2.1, hvk M' (hJJ k M' h).1⟩) (fun k M' hk h => hy k M' (by omega) h) h0
  rw [hq] at this
  exact this
 ·intro B
  have hf : Fr M (M ++ [Blk.box [.slice none 0 0]] ++ [Blk.box [v], Blk.box [.int .i64 4]] ++ [B]) [] := ⟨by simp, fun b hb _ => by simp only [List.append_assoc]; rw [List.getElem?_append_left hb]⟩
  refine ⟨hf, ⟨by simp⟩, ⟨by simp⟩, .slice none 0 0, ⟨by simp⟩, ⟨?_, fun a n c h => by cases h⟩, fun b hb => by cases hb⟩
  exact (Own.nil _ (by omega) : Own _ (.slice none 0 0) 1 [])
 ·rintro k M1 hk hJ
  simp (disch := omega) only [push_cast, ↓reduceIte, reduceCtorEq, Nat.reduceAdd, Nat.reduceMul, Nat.reduceLeDiff, Nat.reduceLT, Nat.reduceSub, Int.reduceNe, Int.reduceEq, Int.reduceLE, Int.reduceLT, Int.reduceToNat, setAll, List.zip_cons_cons, List.zip_nil_left]
  refine AW.region ?_
  (repeat (first | refine st ?_ | refine σa ?_ | refine d141_L2 ?_ | ((first | refine a141_L2 ?_ | refine σb ?_ | refine σc ?_); simp (disch := omega) only [push_cast, ↓reduceIte, reduceCtorEq, ν1, ν2, ν3, ν4, ν5, ζ1, ζ2, ζ3, ζ4, ζ5])))
  clear hJ
  refine ⟨rfl, ?_⟩
  rintro B M2 ⟨hF, h1, h2, out, h3, hN, hbig⟩ hrec
  have hvs := (hvk M2 hF).sub (l := 4 * k) (r := 4 * k + min 4 (xs.length - 4 * k)) (c := min 4 (xs.length - 4 * k)) (by omega) (by omega) (by rw [Nat.add_sub_cancel_left]; unfold capLb; rw [if_pos (by have : capLow = 4611686018427387904 := rfl; omega)]; exact Nat.le_refl _) (fun h => .inl (by omega))
  rw [show 4 * k + min 4 (xs.length - 4 * k) - 4 * k = 4 by omega, ints_drop, ints_take, Nat.mul_one, Nat.mul_one] at hvs
  have hw := hvs.1
  generalize subsl v 1 (4 * k) (4 * k + min 4 (xs.length - 4 * k)) (min 4 (xs.length - 4 * k)) = w at *
  (repeat (first | refine st ?_ | refine σa ?_ | refine d141_L2 ?_ | ((first | refine a141_L2 ?_ | refine σb ?_ | refine σc ?_); simp (disch := omega) only [push_cast, ↓reduceIte, reduceCtorEq, ν1, ν2, ν3, ν4, ν5, ζ1, ζ2, ζ3, ζ4, ζ5, h3.ld])))
  refine (word_spec w ((xs.drop (4 * k)).take 4) M2 hw (by simp; omega) (fun x hx => hb x (List.mem_of_mem_drop (List.mem_of_mem_take hx)))).mono ?_
  rintro r M3 ⟨z, rfl, hz, rfl⟩
  rw [getD_drop_take xs (by omega), getD_drop_take xs (by omega), getD_drop_take xs (by omega), getD_drop_take xs (by omega)] at hz
  have hz' : z = wordAt xs (4 * k) := hz
  (repeat (first | refine st ?_ | refine σa ?_ | refine d141_L2 ?_ | ((first | refine a141_L2 ?_ | refine σb ?_ | refine σc ?_); simp (disch := omega) only [push_cast, ↓reduceIte, reduceCtorEq, ν1, ν2, ν3, ν4, ν5, ζ1, ζ2, ζ3, ζ4, ζ5])))
  refine ⟨Fr.refl _, ?_⟩
  (repeat (first | refine st ?_ | refine σa ?_ | refine d141_L2 ?_ | ((first | refine a141_L2 ?_ | refine σb ?_ | refine σc ?_); simp (disch := omega) only [push_cast, ↓reduceIte, reduceCtorEq, ν1, ν2, ν3, ν4, ν5, ζ1, ζ2, ζ3, ζ4, ζ5])))
  have hrow := New.row M3 (s := 1) (n := 1) (cs := ints .u32 [z]) (by omega) rfl rfl (by decide)
  have hN1 := hN.keep (Fr.push M3 (.row true 1 [.int .u32 z])) (by simp)
  have hwl := words_length xs k
  refine appK.ints (P := Try.prog) (e := 30) (bt := 4) (z := .int .u32 0) (by kernel_rfl) (by kernel_rfl) (by kernel_rfl) (by kernel_rfl) (by decide) hN1.1 hrow.sl (by simp; omega) ?_
  intro v' M4 hN4 hF4
  rw [hz', ← words_succ] at hN4
  have hF3 : Fr M M3 [] := hF
  have f4 : Fr M3 M4 (blkOf out) := ((Fr.push M3 (.row true 1 [.int .u32 z])).trans hF4).cut (by intro x hx _; simpa using hx)
  have hlt : M.length + 3 < M3.length := by have := (List.getElem?_eq_some_iff.1 hrec).1; rw [hlen] at this; exact this
  have nb : ∀ x, x ≤ M.length + 3 → x ∉ blkOf out := fun x hx h => by have := hbig x h; omega
  have h3' := h3.keep f4 (nb _ (by omega))
  have hs4 := hN4.sl.isSl
  have hc4 := isSl_cl hs4
  have ho4 := isSl_one hs4
  simp only [Value.oneCell'] at ho4
  have sp1 : ∀ a b : Value, spl [a] 0 [b] = [b] := fun _ _ => rfl
  (repeat (first | refine st ?_ | refine σa ?_ | refine d141_L2 ?_ | ((first | refine a141_L2 ?_ | refine σb ?_ | refine σc ?_); simp (disch := omega) only [push_cast, ↓reduceIte, reduceCtorEq, ν1, ν2, ν3, ν4, ν5, ζ1, ζ2, ζ3, ζ4, ζ5, hc4, ho4, sp1, h3'.get, Option.some.injEq, exists_eq_left', Blk.put, Blk.ours, Blk.cells])))
  have g1 := Fr.set M4 M.length (.box [v'])
  have hbk : ∀ b ∈ blkOf v', M.length + 3 < b := fun b hb => by have := hN4.blk b hb; simp at this; omega
  have hrec4 : M4[M.length + 3]? = some B := by rw [f4.2 _ hlt (nb _ (by omega)), ← hlen]; exact hrec
  rw [hlen]
  refine ⟨rfl, by rw [List.getElem?_set_ne (by omega)]; exact hrec4, ((hF3.trans f4).trans g1).cut (fun x hx hlt => ?_), (h1.keep f4 (nb _ (by omega))).keep g1 (by simp), (h2.keep f4 (nb _ (by omega))).keep g1 (by simp), v', h3'.set _, ?_, hbk⟩
  ·simp only [List.nil_append, List.mem_append, List.mem_singleton] at hx
   rcases hx with hx | hx
   ·have := hbig x hx; omega
   ·omega
  ·refine ⟨hN4.1.keep g1 (fun b hb hx => ?_), fun a n' c' hv' hc' => ?_⟩
   ·have := hbk b hb; simp at hx; omega
   ·have := hbk a.block (by rw [hv']; show a.block ∈ (if c' = 0 then [] else [a.block]); rw [if_neg hc']; simp)
    omega
 ·rintro M1 ⟨hF, h1, h2, out, h3, hN, hbig⟩
  (repeat (first | refine st ?_ | refine σa ?_ | refine d141_L2 ?_ | ((first | refine a141_L2 ?_ | refine σb ?_ | refine σc ?_); simp (disch := omega) only [push_cast, ↓reduceIte, reduceCtorEq, ν1, ν2, ν3, ν4, ν5, ζ1, ζ2, ζ3, ζ4, ζ5, h3.ld])))
  ((first | refine retA.ret (by rfl) ?_ | refine retA.normal (by rfl) ?_); simp (disch := omega) only [push_cast, ↓reduceIte, reduceCtorEq, Nat.reduceAdd, Nat.reduceMul, Nat.reduceLeDiff, Nat.reduceLT, Nat.reduceSub, Int.reduceNe, Int.reduceEq, Int.reduceLE, Int.reduceLT, Int.reduceToNat])
  exact ⟨hN, hF⟩
end Go.Proofs.Ytbdejnnbpdgjlaa.Ax
namespace Go.Proofs.Ytbdejnnbpdgjlaa.Ax
open Go Go.RowKit
set_option linter.unusedVariables false
set_option linter.unusedSimpArgs false
set_option maxRecDepth 100000
set_option maxHeartbeats 20000000
def isByte (x : Int) : Prop := 0 ≤ x ∧ x ≤ 255
theorem byte_all (p : Nat → Bool) (h : (List.range 256).all p = true) {x : Int} (hx : isByte x) : p x.toNat = true := List.all_eq_true.1 h _ (List.mem_range.2 (by have := hx.1; have := hx.2; omega))
theorem and16 {x : Int} (hx : isByte x) : bits .u8 (BitVec.ofInt IntKind.u8.bits x &&& BitVec.ofInt IntKind.u8.bits 16) = .int .u8 (x / 16 % 2 * 16) := by
 have := byte_all (fun n => decide (IntKind.u8.wrap ((BitVec.ofInt IntKind.u8.bits (n : Int) &&& BitVec.ofInt IntKind.u8.bits 16).toNat : Int) = (n : Int) / 16 % 2 * 16)) (by decide +kernel) hx
 simp only [decide_eq_true_eq, Int.toNat_of_nonneg hx.1] at this
 exact congrArg (Value.int .u8) this
theorem and32 {x : Int} (hx : isByte x) : bits .u8 (BitVec.ofInt IntKind.u8.bits x &&& BitVec.ofInt IntKind.u8.bits 32) = .int .u8 (x / 32 % 2 * 32) := by
 have := byte_all (fun n => decide (IntKind.u8.wrap ((BitVec.ofInt IntKind.u8.bits (n : Int) &&& BitVec.ofInt IntKind.u8.bits 32).toNat : Int) = (n : Int) / 32 % 2 * 32)) (by decide +kernel) hx
 simp only [decide_eq_true_eq, Int.toNat_of_nonneg hx.1] at this
 exact congrArg (Value.int .u8) this
theorem and128 {x : Int} (hx : isByte x) : bits .u8 (BitVec.ofInt IntKind.u8.bits x &&& BitVec.ofInt IntKind.u8.bits 128) = .int .u8 (x / 128 * 128) := by
 have := byte_all (fun n => decide (IntKind.u8.wrap ((BitVec.ofInt IntKind.u8.bits (n : Int) &&& BitVec.ofInt IntKind.u8.bits 128).toNat : Int) = (n : Int) / 128 * 128)) (by decide +kernel) hx
 simp only [decide_eq_true_eq, Int.toNat_of_nonneg hx.1] at this
 exact congrArg (Value.int .u8) this
theorem and192 {x : Int} (hx : isByte x) : bits .u8 (BitVec.ofInt IntKind.u8.bits x &&& BitVec.ofInt IntKind.u8.bits 192) = .int .u8 (x / 64 * 64) := by
 have := byte_all (fun n => decide (IntKind.u8.wrap ((BitVec.ofInt IntKind.u8.bits (n : Int) &&& BitVec.ofInt IntKind.u8.bits 192).toNat : Int) = (n : Int) / 64 * 64)) (by decide +kernel) hx
 simp only [decide_eq_true_eq, Int.toNat_of_nonneg hx.1] at this
 exact congrArg (Value.int .u8) this
theorem or64 {x y : Int} (hx : isByte x) (hy : isByte y) : bits .i64 (BitVec.ofInt IntKind.i64.bits x ||| BitVec.ofInt IntKind.i64.bits (y * 256)) = .int .i64 (y * 256 + x) := by
 have h1 := hx.1
 have h2 := hx.2
 have h3 := hy.1
 have h4 := hy.2
 obtain ⟨a, rfl⟩ : ∃ a : Nat, x = a := ⟨x.toNat, by omega⟩
 obtain ⟨b, rfl⟩ : ∃ b : Nat, y = b := ⟨y.toNat, by omega⟩
 have ho : a ||| (b * 256) = b * 256 + a := by
  rw [Nat.or_comm, Nat.mul_comm b 256]
  exact (Nat.two_pow_add_eq_or_of_lt (i := 8) (by omega) _).symm
 have ea : (BitVec.ofInt IntKind.i64.bits (a : Int)).toNat = a := by
  rw [BitVec.ofInt_natCast, BitVec.toNat_ofNat]
  exact Nat.mod_eq_of_lt (by show a < 2 ^ 64; omega)
 have eb : (BitVec.ofInt IntKind.i64.bits ((b : Int) * 256)).toNat = b * 256 := by
  rw [show (b : Int) * 256 = ((b * 256 : Nat) : Int) by omega, BitVec.ofInt_natCast, BitVec.toNat_ofNat]
  exact Nat.mod_eq_of_lt (by show b * 256 < 2 ^ 64; omega)
 unfold bits
 rw [BitVec.toNat_or, ea, eb, ho, w_i64 (by omega) (by omega)]
 congr 1
theorem getD_byte {xs : List Int} (hb : ∀ x ∈ xs, 0 ≤ x ∧ x ≤ 255) (i : Nat) : isByte (xs.getD i 0) := by
 rcases Nat.lt_or_ge i xs.length with h | h
 ·exact hb _ (getD_mem h)
 ·rw [List.getD_eq_getElem?_getD, List.getElem?_eq_none_iff.2 h]; exact ⟨by decide, by decide⟩
structure AV where
 origin : Int
 path : List Int
 hop : Int
 med : Int
 pref : Int
 hasMed : Bool
 hasPref : Bool
 comms : List Int
def AV.zero : AV := ⟨0, [], 0, 0, 0, false, false, []⟩
def flagsP (k : Int) : Int := if k = 1 ∨ k = 2 ∨ k = 3 ∨ k = 5 then 64 else if k = 4 then 128 else if k = 8 then 192 else 0
def lenP (k n : Int) : Bool := if k = 1 then decide (n = 1) else if k = 3 ∨ k = 4 ∨ k = 5 then decide (n = 4) else if k = 8 then decide (n % 4 = 0) else true
def headP (xs : List Int) : Nat := if xs.getD 0 0 / 16 % 2 = 1 then 4 else 3
def sizeP (xs : List Int) : Nat := if xs.getD 0 0 / 16 % 2 = 1 then (xs.getD 2 0 * 256 + xs.getD 3 0).toNat else (xs.getD 2 0).toNat
def cutP (xs : List Int) : Prop := headP xs ≤ xs.length ∧ headP xs + sizeP xs ≤ xs.length
end Go.Proofs.Ytbdejnnbpdgjlaa.Ax
namespace Go.Proofs.Ytbdejnnbpdgjlaa.Ax
open Go Go.RowKit
open Nat renaming reduceAdd → ν1, reduceMul → ν2, reduceLeDiff → ν3, reduceLT → ν4, reduceSub → ν5
open Int renaming reduceNe → ζ1, reduceEq → ζ2, reduceLE → ζ3, reduceLT → ζ4, reduceToNat → ζ5
set_option linter.unusedVariables false
set_option linter.unusedSimpArgs false
set_option maxRecDepth 100000
set_option maxHeartbeats 20000000
attribute [local irreducible] thenA blockA scopeA retA AL AW AD ADL AH clrK CallA apure aload bload appK ptrK fnK ares szOk planOk okOps
theorem flags_spec (k : Int) (M : Mem) : CallA Try.prog 122 [.int .u8 k] M fun r M' => M' = M ∧ r = .int .u8 (flagsP k) := by
 (refine CallA.of_body Try.func122 rfl (by rfl) ?_; simp only [Try.ntmps122, List.length_cons, List.length_nil, List.replicate, List.cons_append, List.nil_append, Nat.reduceSub, Nat.reduceAdd])
 (repeat' (first | refine st ?_ | refine σa ?_ | (refine σb ?_; simp (disch := omega) only [push_cast, ↓reduceIte, reduceCtorEq, ν1, ν2, ν3, ν4, ν5, ζ1, ζ2, ζ3, ζ4, ζ5]) | (refine AL.gu rfl (fun h => ?_) (fun h => ?_) <;> try (simp only [Bool.not_eq_true', Bool.not_eq_false', Bool.not_true, Bool.not_false, decide_eq_true_eq, decide_eq_false_iff_not, Classical.not_not, Int.not_lt, Int.not_le, gt_iff_lt, ge_iff_le, beq_iff_eq] at h)) | (refine AW.condS rfl rfl (fun h => ?_) (fun h => ?_) <;> try (simp only [Bool.not_eq_true', Bool.not_eq_false', Bool.not_true, Bool.not_false, decide_eq_true_eq, decide_eq_false_iff_not, Classical.not_not, Int.not_lt, Int.not_le, gt_iff_lt, ge_iff_le, beq_iff_eq] at h)) | ((first | refine retA.ret (by rfl) ?_ | refine retA.normal (by rfl) ?_); simp (disch := omega) only [push_cast, ↓reduceIte, reduceCtorEq, Nat.reduceAdd, Nat.reduceMul, Nat.reduceLeDiff, Nat.reduceLT, Nat.reduceSub, Int.reduceNe, Int.reduceEq, Int.reduceLE, Int.reduceLT, Int.reduceToNat])))
 all_goals (refine congrArg _ ?_; unfold flagsP; repeat' split)
 all_goals omega
theorem length_spec (k n : Int) (M : Mem) (hn : 0 ≤ n) : CallA Try.prog 139 [.int .u8 k, .int .i64 n] M fun r M' => M' = M ∧ r = .bool (lenP k n) := by
 (refine CallA.of_body Try.func139 rfl (by rfl) ?_; simp only [Try.ntmps139, List.length_cons, List.length_nil, List.replicate, List.cons_append, List.nil_append, Nat.reduceSub, Nat.reduceAdd])
 (repeat' (first | refine st ?_ | refine σa ?_ | (refine σb ?_; simp (disch := omega) only [push_cast, ↓reduceIte, reduceCtorEq, ν1, ν2, ν3, ν4, ν5, ζ1, ζ2, ζ3, ζ4, ζ5, tmod_in]) | (refine AL.gu rfl (fun h => ?_) (fun h => ?_) <;> try (simp only [Bool.not_eq_true', Bool.not_eq_false', Bool.not_true, Bool.not_false, decide_eq_true_eq, decide_eq_false_iff_not, Classical.not_not, Int.not_lt, Int.not_le, gt_iff_lt, ge_iff_le, beq_iff_eq] at h)) | (refine AW.condS rfl rfl (fun h => ?_) (fun h => ?_) <;> try (simp only [Bool.not_eq_true', Bool.not_eq_false', Bool.not_true, Bool.not_false, decide_eq_true_eq, decide_eq_false_iff_not, Classical.not_not, Int.not_lt, Int.not_le, gt_iff_lt, ge_iff_le, beq_iff_eq] at h)) | ((first | refine retA.ret (by rfl) ?_ | refine retA.normal (by rfl) ?_); simp (disch := omega) only [push_cast, ↓reduceIte, reduceCtorEq, Nat.reduceAdd, Nat.reduceMul, Nat.reduceLeDiff, Nat.reduceLT, Nat.reduceSub, Int.reduceNe, Int.reduceEq, Int.reduceLE, Int.reduceLT, Int.reduceToNat, tmod_in])))
 all_goals (refine congrArg _ ?_; unfold lenP; repeat' split)
 all_goals first | rfl | omega
end Go.Proofs.Ytbdejnnbpdgjlaa.Ax
