/- Contracts of functions over the abstract machine. No conditions: lemmas alone. -/
import Derived.Test.YtbdejnnbpdgjlaaPfxKLibD
import Derived.Test.YtbdejnnbpdgjlaaPfxKP0
import Derived.Test.YtbdejnnbpdgjlaaPfxKP1
namespace Go.Proofs.Ytbdejnnbpdgjlaa.Ax
open Go Go.RowKit
open Nat renaming reduceAdd → ν1, reduceMul → ν2, reduceLeDiff → ν3, reduceLT → ν4, reduceSub → ν5
open Int renaming reduceNe → ζ1, reduceEq → ζ2, reduceLE → ζ3, reduceLT → ζ4, reduceToNat → ζ5
set_option linter.unusedVariables false
set_option linter.unusedSimpArgs false
set_option maxRecDepth 100000
set_option maxHeartbeats 20000000
attribute [local irreducible] thenA blockA scopeA retA AL AW AD ADL AH clrK CallA apure aload bload appK ptrK fnK ares szOk planOk okOps
theorem getD_lt {xs : List Int} {i : Nat} (h : i < xs.length) : xs.getD i 0 = xs[i] := by
 rw [List.getD_eq_getElem?_getD, List.getElem?_eq_getElem h]; rfl
theorem PermOn.all {lo hi : Nat} {xs ys : List Int} (h : PermOn lo hi xs ys) (p : Int → Prop) (hp : ∀ i, lo ≤ i → i < hi → i < xs.length → p (xs.getD i 0)) : ∀ i, lo ≤ i → i < hi → i < xs.length → p (ys.getD i 0) := by
 intro i h1 h2 h3
 have hl := h.len
 have key : ((ys.take hi).drop lo ++ ((ys.take hi).take lo ++ ys.drop hi)).Perm ((xs.take hi).drop lo ++ ((ys.take hi).take lo ++ ys.drop hi)) := by
  have e1 : ((ys.take hi).take lo) = ((xs.take hi).take lo) := by
   apply List.ext_getElem?
   intro j
   simp only [List.getElem?_take]
   by_cases hj : j < lo
   ·rw [if_pos hj, if_pos hj]
    by_cases hj2 : j < hi
    ·rw [if_pos hj2, if_pos hj2]
     rcases Nat.lt_or_ge j xs.length with hx | hx
     ·have := h.out j (.inl hj)
      rw [getD_lt (by omega), getD_lt hx] at this
      rw [List.getElem?_eq_getElem (by omega), List.getElem?_eq_getElem hx, this]
     ·rw [List.getElem?_eq_none_iff.2 (by omega), List.getElem?_eq_none_iff.2 hx]
    ·rw [if_neg hj2, if_neg hj2]
   ·rw [if_neg hj, if_neg hj]
  have e2 : ys.drop hi = xs.drop hi := by
   apply List.ext_getElem?
   intro j
   simp only [List.getElem?_drop]
   rcases Nat.lt_or_ge (hi + j) xs.length with hx | hx
   ·have := h.out (hi + j) (.inr (by omega))
    rw [getD_lt (by omega), getD_lt hx] at this
    rw [List.getElem?_eq_getElem (by omega), List.getElem?_eq_getElem hx, this]
   ·rw [List.getElem?_eq_none_iff.2 (by omega), List.getElem?_eq_none_iff.2 hx]
  have a1 : ((ys.take hi).drop lo ++ ((ys.take hi).take lo ++ ys.drop hi)).Perm ys := by
   have : ys = ((ys.take hi).take lo ++ (ys.take hi).drop lo) ++ ys.drop hi := by rw [List.take_append_drop, List.take_append_drop]
   conv => rhs; rw [this]
   rw [← List.append_assoc]
   exact List.Perm.append_right _ List.perm_append_comm
  have a2 : ((xs.take hi).drop lo ++ ((xs.take hi).take lo ++ xs.drop hi)).Perm xs := by
   have : xs = ((xs.take hi).take lo ++ (xs.take hi).drop lo) ++ xs.drop hi := by rw [List.take_append_drop, List.take_append_drop]
   conv => rhs; rw [this]
   rw [← List.append_assoc]
   exact List.Perm.append_right _ List.perm_append_comm
  rw [← e1, ← e2] at a2
  exact a1.trans (h.perm.trans a2.symm)
 have key := (List.perm_append_right_iff _).1 key
 have hm : ys.getD i 0 ∈ (ys.take hi).drop lo := by
  rw [getD_lt (by omega)]
  refine List.mem_iff_getElem?.2 ⟨i - lo, ?_⟩
  rw [List.getElem?_drop, List.getElem?_take, if_pos (by omega), show lo + (i - lo) = i by omega, List.getElem?_eq_getElem (by omega)]
 obtain ⟨j, hj⟩ := List.mem_iff_getElem?.1 (key.subset hm)
 rw [List.getElem?_drop, List.getElem?_take] at hj
 split at hj
 ·have hjl := (List.getElem?_eq_some_iff.1 hj).1
  have := hp (lo + j) (by omega) (by omega) hjl
  rw [getD_lt hjl, (List.getElem?_eq_some_iff.1 hj).2] at this
  exact this
 ·cases hj
def hget (xs : List Int) (f i : Nat) : Int := xs.getD (f + i) 0
def HeapAt (xs : List Int) (f hi i : Nat) : Prop := (2 * i + 1 < hi → hget xs f (2 * i + 1) ≤ hget xs f i) ∧ (2 * i + 2 < hi → hget xs f (2 * i + 2) ≤ hget xs f i)
def HeapFrom (xs : List Int) (f lo hi : Nat) : Prop := ∀ i, lo ≤ i → HeapAt xs f hi i
structure Sift (xs : List Int) (f lo hi r : Nat) : Prop where
 ge : lo ≤ r
 at_ : ∀ i, lo ≤ i → i ≠ r → HeapAt xs f hi i
 up : ∀ p, lo ≤ p → (r = 2 * p + 1 ∨ r = 2 * p + 2) → (2 * r + 1 < hi → hget xs f (2 * r + 1) ≤ hget xs f p) ∧ (2 * r + 2 < hi → hget xs f (2 * r + 2) ≤ hget xs f p)
theorem Sift.start {xs : List Int} {f lo hi : Nat} (h : HeapFrom xs f (lo + 1) hi) : Sift xs f lo hi lo :=
 ⟨Nat.le_refl _, fun i h1 h2 => h i (by omega), fun p h1 h2 => by omega⟩
theorem Sift.done {xs : List Int} {f lo hi r : Nat} (h : Sift xs f lo hi r) (hr : HeapAt xs f hi r) : HeapFrom xs f lo hi := by
 intro i hi
 by_cases e : i = r
 ·subst e; exact hr
 ·exact h.at_ i hi e
theorem hget_swap {xs : List Int} {f i j k : Nat} (hi : f + i < xs.length) (hj : f + j < xs.length) (hk : f + k < xs.length) : hget (swap xs (f + i) (f + j)) f k = if k = j then hget xs f i else if k = i then hget xs f j else hget xs f k := by
 unfold hget
 rw [swap_get hi hj hk]
 by_cases h1 : k = j
 ·rw [if_pos (by omega), if_pos h1]
 ·rw [if_neg (by omega), if_neg h1]
  by_cases h2 : k = i
  ·rw [if_pos (by omega), if_pos h2]
  ·rw [if_neg (by omega), if_neg h2]
theorem Sift.step {xs : List Int} {f lo hi r c : Nat} (h : Sift xs f lo hi r) (hl : f + hi ≤ xs.length) (hc : c = 2 * r + 1 ∨ c = 2 * r + 2) (hch : c < hi)
  (hmax : (2 * r + 1 < hi → hget xs f (2 * r + 1) ≤ hget xs f c) ∧ (2 * r + 2 < hi → hget xs f (2 * r + 2) ≤ hget xs f c)) (hlt : hget xs f r < hget xs f c) : Sift (swap xs (f + r) (f + c)) f lo hi c := by
 have hg : ∀ k, k < hi → hget (swap xs (f + r) (f + c)) f k = if k = c then hget xs f r else if k = r then hget xs f c else hget xs f k := fun k hk => hget_swap (by omega) (by omega) (by omega)
 have hge := h.ge
 refine ⟨by omega, fun i h1 h2 => ?_, fun p h1 h2 => ?_⟩
 ·constructor
  ·intro h3
   rw [hg _ h3, hg i (by omega), if_neg h2]
   by_cases e : i = r
   ·subst e
    rw [if_pos rfl]
    by_cases e2 : 2 * i + 1 = c
    ·rw [if_pos e2]; omega
    ·rw [if_neg e2, if_neg (by omega)]; exact hmax.1 h3
   ·rw [if_neg e, if_neg (by omega)]
    by_cases e3 : 2 * i + 1 = r
    ·rw [if_pos e3]
     have := h.up i h1 (.inl e3.symm)
     rcases hc with rfl | rfl
     ·exact this.1 hch
     ·exact this.2 hch
    ·rw [if_neg e3]; exact (h.at_ i h1 e).1 h3
  ·intro h3
   rw [hg _ h3, hg i (by omega), if_neg h2]
   by_cases e : i = r
   ·subst e
    rw [if_pos rfl]
    by_cases e2 : 2 * i + 2 = c
    ·rw [if_pos e2]; omega
    ·rw [if_neg e2, if_neg (by omega)]; exact hmax.2 h3
   ·rw [if_neg e, if_neg (by omega)]
    by_cases e3 : 2 * i + 2 = r
    ·rw [if_pos e3]
     have := h.up i h1 (.inr e3.symm)
     rcases hc with rfl | rfl
     ·exact this.1 hch
     ·exact this.2 hch
    ·rw [if_neg e3]; exact (h.at_ i h1 e).2 h3
 ·have hpr : p = r := by omega
  subst hpr
  constructor
  ·intro h3
   rw [hg _ h3, hg p (by omega), if_neg (by omega), if_neg (by omega), if_neg (by omega), if_pos rfl]
   exact (h.at_ c (by omega) (by omega)).1 h3
  ·intro h3
   rw [hg _ h3, hg p (by omega), if_neg (by omega), if_neg (by omega), if_neg (by omega), if_pos rfl]
   exact (h.at_ c (by omega) (by omega)).2 h3
theorem HeapFrom.top {xs : List Int} {f hi : Nat} (h : HeapFrom xs f 0 hi) : ∀ i, i < hi → hget xs f i ≤ hget xs f 0 := by
 intro i
 induction i using Nat.strongRecOn with
 | _ i ih =>
  intro hi
  by_cases h0 : i = 0
  ·subst h0; exact Int.le_refl _
  ·have h1 := ih ((i - 1) / 2) (by omega) (by omega)
   have h2 := h ((i - 1) / 2) (by omega)
   rcases (by omega : 2 * ((i - 1) / 2) + 1 = i ∨ 2 * ((i - 1) / 2) + 2 = i) with e | e
   ·have := h2.1 (by omega); rw [e] at this; omega
   ·have := h2.2 (by omega); rw [e] at this; omega
theorem HeapFrom.half (xs : List Int) (f hi lo : Nat) (h : hi ≤ 2 * lo + 1) : HeapFrom xs f lo hi := fun i hl => ⟨fun h => by omega, fun h => by omega⟩
theorem HeapFrom.pop {xs : List Int} {f k : Nat} (h : HeapFrom xs f 0 (k + 1)) (hl : f + k < xs.length) : HeapFrom (swap xs f (f + k)) f 1 k := by
 have hg : ∀ i, i < k + 1 → hget (swap xs f (f + k)) f i = if i = k then hget xs f 0 else if i = 0 then hget xs f k else hget xs f i := fun i hi => hget_swap (i := 0) (by omega) (by omega) (by omega)
 intro i h1
 constructor
 ·intro h2
  rw [hg _ (by omega), hg _ (by omega), if_neg (by omega), if_neg (by omega), if_neg (by omega), if_neg (by omega)]
  exact (h i (by omega)).1 (by omega)
 ·intro h2
  rw [hg _ (by omega), hg _ (by omega), if_neg (by omega), if_neg (by omega), if_neg (by omega), if_neg (by omega)]
  exact (h i (by omega)).2 (by omega)
structure PQ (a b : Nat) (xs : List Int) (a' b' : Nat) (zs : List Int) : Prop where
 perm : PermOn a b xs zs
 clo : ∀ ws, PermOn a' b' zs ws → SortOn a' b' ws → SortOn a b ws
 low : ∀ i j, i < a' → a' ≤ j → j < b' → zs.getD i 0 ≤ zs.getD j 0
 h1 : a ≤ a'
 h2 : b' ≤ b
theorem PQ.start {a b : Nat} {xs : List Int} (h : ∀ i j, i < a → a ≤ j → j < b → xs.getD i 0 ≤ xs.getD j 0) : PQ a b xs a b xs :=
 ⟨PermOn.refl _ _ _, fun ws _ h => h, h, Nat.le_refl _, Nat.le_refl _⟩
theorem PQ.low_turn {a b : Nat} {xs ys : List Int} (h : ∀ i j, i < a → a ≤ j → j < b → xs.getD i 0 ≤ xs.getD j 0) (k : PermOn a b xs ys) (hb : b ≤ xs.length) : ∀ i j, i < a → a ≤ j → j < b → ys.getD i 0 ≤ ys.getD j 0 := by
 intro i j h1 h2 h3
 rw [k.out i (.inl h1)]
 exact k.all (fun y => xs.getD i 0 ≤ y) (fun q q1 q2 q3 => h i q h1 q1 q2) j h2 h3 (by omega)
theorem PQ.turn {a b a' b' : Nat} {xs zs ys : List Int} (h : PQ a b xs a' b' zs) (k : PermOn a' b' zs ys) (hb : b ≤ xs.length) : PQ a b xs a' b' ys := by
 have e1 := h.h1
 have e2 := h.h2
 have hl := h.perm.len
 exact ⟨h.perm.trans (k.mono e1 e2), fun ws p s => h.clo ws (k.trans p) s, PQ.low_turn h.low k (by omega), e1, e2⟩
theorem PQ.left {a b a' b' k : Nat} {xs zs : List Int} (h : PQ a b xs a' b' zs) (hb : b ≤ xs.length) (h1 : a' ≤ k) (h2 : k ≤ b') (hs : SortOn a' k zs) (hm : ∀ i j, a' ≤ i → i < k → k ≤ j → j < b' → zs.getD i 0 ≤ zs.getD j 0) : PQ a b xs k b' zs := by
 have e1 := h.h1
 have e2 := h.h2
 have hl := h.perm.len
 refine ⟨h.perm, fun ws p s => h.clo ws (p.mono h1 (Nat.le_refl _)) fun i j i1 ij j1 => ?_, fun i j i1 j1 j2 => ?_, by omega, by omega⟩
 ·by_cases hj : j < k
  ·rw [p.out i (.inl (by omega)), p.out j (.inl hj)]; exact hs i j i1 ij hj
  ·by_cases hi : i < k
   ·rw [p.out i (.inl hi)]
    exact p.all (fun y => zs.getD i 0 ≤ y) (fun q q1 q2 q3 => hm i q i1 hi q1 q2) j (by omega) j1 (by omega)
   ·exact s i j (by omega) ij j1
 ·by_cases hi : i < a'
  ·exact h.low i j hi (by omega) j2
  ·exact hm i j (by omega) i1 j1 j2
theorem PQ.right {a b a' b' k : Nat} {xs zs : List Int} (h : PQ a b xs a' b' zs) (hb : b ≤ xs.length) (h1 : a' ≤ k) (h2 : k ≤ b') (hs : SortOn k b' zs) (hm : ∀ i j, a' ≤ i → i < k → k ≤ j → j < b' → zs.getD i 0 ≤ zs.getD j 0) : PQ a b xs a' k zs := by
 have e1 := h.h1
 have e2 := h.h2
 have hl := h.perm.len
 refine ⟨h.perm, fun ws p s => h.clo ws (p.mono (Nat.le_refl _) h2) fun i j i1 ij j1 => ?_, fun i j i1 j1 j2 => h.low i j i1 j1 (by omega), by omega, by omega⟩
 by_cases hi : k ≤ i
 ·rw [p.out i (.inr hi), p.out j (.inr (by omega))]; exact hs i j hi ij j1
 ·by_cases hj : k ≤ j
  ·rw [p.out j (.inr hj)]
   exact p.all (fun y => y ≤ zs.getD j 0) (fun q q1 q2 q3 => hm q j q1 q2 hj j1) i i1 (by omega) (by omega)
  ·exact s i j i1 ij (by omega)
structure PartAt (a b m : Nat) (zs : List Int) : Prop where
 ge : a ≤ m
 lt : m < b
 lo : ∀ i, a ≤ i → i < m → zs.getD i 0 ≤ zs.getD m 0
 hi : ∀ j, m < j → j < b → zs.getD m 0 ≤ zs.getD j 0
theorem PQ.goLeft {a b a' b' m : Nat} {xs zs ys : List Int} (h : PQ a b xs a' b' zs) (hb : b ≤ xs.length) (p : PartAt a' b' m zs) (k : PermOn a' m zs ys) (s : SortOn a' m ys) : PQ a b xs (m + 1) b' ys := by
 have e2 := h.h2
 have hl := h.perm.len
 have hm := p.lt
 have hg := p.ge
 have lo : ∀ i, a' ≤ i → i < m → ys.getD i 0 ≤ zs.getD m 0 := fun i i1 i2 => k.all (fun y => y ≤ zs.getD m 0) (fun q q1 q2 _ => p.lo q q1 q2) i i1 i2 (by omega)
 have em : ys.getD m 0 = zs.getD m 0 := k.out m (.inr (Nat.le_refl _))
 refine (h.turn (k.mono (Nat.le_refl _) (by omega)) hb).left hb (by omega) (by omega) (fun i j i1 ij j1 => ?_) (fun i j i1 i2 j1 j2 => ?_)
 ·by_cases hj : j = m
  ·rw [hj, em]; exact lo i i1 (by omega)
  ·exact s i j i1 ij (by omega)
 ·have := p.hi j (by omega) j2
  rw [k.out j (.inr (by omega))]
  by_cases hi : i = m
  ·rw [hi, em]; exact this
  ·have := lo i i1 (by omega); omega
theorem PQ.goRight {a b a' b' m : Nat} {xs zs ys : List Int} (h : PQ a b xs a' b' zs) (hb : b ≤ xs.length) (p : PartAt a' b' m zs) (k : PermOn (m + 1) b' zs ys) (s : SortOn (m + 1) b' ys) : PQ a b xs a' m ys := by
 have e2 := h.h2
 have hl := h.perm.len
 have hm := p.lt
 have hg := p.ge
 have hi : ∀ i, m + 1 ≤ i → i < b' → zs.getD m 0 ≤ ys.getD i 0 := fun i i1 i2 => k.all (fun y => zs.getD m 0 ≤ y) (fun q q1 q2 _ => p.hi q q1 q2) i i1 i2 (by omega)
 have em : ys.getD m 0 = zs.getD m 0 := k.out m (.inl (by omega))
 refine (h.turn (k.mono (by omega) (Nat.le_refl _)) hb).right hb (by omega) (by omega) (fun i j i1 ij j1 => ?_) (fun i j i1 i2 j1 j2 => ?_)
 ·by_cases hi' : i = m
  ·rw [hi', em]; exact hi j (by omega) j1
  ·exact s i j (by omega) ij j1
 ·have := p.lo i i1 i2
  rw [k.out i (.inl (by omega))]
  by_cases hj : j = m
  ·rw [hj, em]; exact this
  ·have := hi j (by omega) j2; omega
theorem PQ.goEqual {a b a' b' m : Nat} {xs zs ys : List Int} {p : Int} (h : PQ a b xs a' b' zs) (hb : b ≤ xs.length) (k : PermOn a' b' zs ys) (hp : ∀ i, a' ≤ i → i < b' → p ≤ zs.getD i 0) (h1 : a' ≤ m) (h2 : m ≤ b')
  (hlo : ∀ i, a' ≤ i → i < m → ys.getD i 0 ≤ p) : PQ a b xs m b' ys := by
 have e2 := h.h2
 have hl := h.perm.len
 have hy : ∀ i, a' ≤ i → i < b' → p ≤ ys.getD i 0 := fun i i1 i2 => k.all (fun y => p ≤ y) (fun q q1 q2 _ => hp q q1 q2) i i1 i2 (by omega)
 refine (h.turn k hb).left hb h1 h2 (fun i j i1 ij j1 => ?_) (fun i j i1 i2 j1 j2 => ?_)
 ·have := hlo i i1 (by omega); have := hy j (by omega) (by omega); omega
 ·have := hlo i i1 (by omega); have := hy j (by omega) (by omega); omega
theorem heap_next {ys ws : List Int} {a i e : Nat} (hH : HeapFrom ys a 0 (i + 1)) (hS : SortOn (a + (i + 1)) e ys) (hC : ∀ p q, a ≤ p → p < a + (i + 1) → a + (i + 1) ≤ q → q < e → ys.getD p 0 ≤ ys.getD q 0) (hl : e ≤ ys.length) (hi : a + i < e)
  (hP : PermOn a (a + i) (swap ys a (a + i)) ws) : SortOn (a + i) e ws ∧ ∀ p q, a ≤ p → p < a + i → a + i ≤ q → q < e → ws.getD p 0 ≤ ws.getD q 0 := by
 have hg : ∀ k, k < e → (swap ys a (a + i)).getD k 0 = if k = a + i then ys.getD a 0 else if k = a then ys.getD (a + i) 0 else ys.getD k 0 := fun k hk => swap_get (by omega) (by omega) (by omega)
 have top : ∀ p, a ≤ p → p < a + (i + 1) → ys.getD p 0 ≤ ys.getD a 0 := fun p h1 h2 => by
  have := hH.top (p - a) (by omega)
  unfold hget at this
  rwa [show a + (p - a) = p by omega, Nat.add_zero] at this
 have zlen : (swap ys a (a + i)).length = ys.length := swap_length _ _ _
 have zin : ∀ q, a ≤ q → q < a + i → ∃ p, a ≤ p ∧ p < a + (i + 1) ∧ (swap ys a (a + i)).getD q 0 = ys.getD p 0 := fun q h1 h2 => by
  rw [hg q (by omega), if_neg (by omega)]
  by_cases e1 : q = a
  ·exact ⟨a + i, by omega, by omega, if_pos e1⟩
  ·exact ⟨q, h1, by omega, if_neg e1⟩
 have ei : ws.getD (a + i) 0 = ys.getD a 0 := by rw [hP.out _ (.inr (Nat.le_refl _)), hg _ hi, if_pos rfl]
 have eo : ∀ q, a + i < q → q < e → ws.getD q 0 = ys.getD q 0 := fun q h1 h2 => by rw [hP.out _ (.inr (by omega)), hg _ h2, if_neg (by omega), if_neg (by omega)]
 refine ⟨fun p q h1 h2 h3 => ?_, fun p q h1 h2 h3 h4 => ?_⟩
 ·rw [eo q (by omega) h3]
  by_cases e1 : p = a + i
  ·rw [e1, ei]; exact hC a q (by omega) (by omega) (by omega) h3
  ·rw [eo p (by omega) (by omega)]; exact hS p q (by omega) h2 h3
 ·by_cases e1 : q = a + i
  ·rw [e1, ei]
   exact hP.all (fun y => y ≤ ys.getD a 0) (fun x x1 x2 _ => by obtain ⟨p', p1, p2, p3⟩ := zin x x1 x2; rw [p3]; exact top p' p1 p2) p h1 h2 (by omega)
  ·rw [eo q (by omega) h4]
   exact hP.all (fun y => y ≤ ys.getD q 0) (fun x x1 x2 _ => by obtain ⟨p', p1, p2, p3⟩ := zin x x1 x2; rw [p3]; exact hC p' q p1 p2 (by omega) h4) p h1 h2 (by omega)
end Go.Proofs.Ytbdejnnbpdgjlaa.Ax
namespace Go.Proofs.Ytbdejnnbpdgjlaa.Ax
open Go Go.RowKit
set_option linter.unusedVariables false
set_option linter.unusedSimpArgs false
set_option maxRecDepth 100000
set_option maxHeartbeats 20000000
structure AV where
 origin : Int
 path : List Int
 hop : Int
 med : Int
 pref : Int
 hasMed : Bool
 hasPref : Bool
 comms : List Int
def AV.zero : AV := ⟨0, [], 0, 0, 0, false, false, []⟩
def isArT (P : Program) (ty : TypeId) : Bool := match P.underlying ty with
 | some (.array _ _) => true
 | _ => false
def arLen (P : Program) (ty : TypeId) : Option Nat := match P.underlying ty with
 | some (.array n e) => if tsz P e = some 1 then some n else none
 | _ => none
theorem arLen_inv {P : Program} {ty : TypeId} {n : Nat} (h : arLen P ty = some n) : ∃ e, P.underlying ty = some (.array n e) ∧ tsz P e = some 1 := by
 unfold arLen at h
 split at h
 ·rename_i m e hu
  split at h
  ·cases h; exact ⟨e, hu, by assumption⟩
  ·cases h
 ·cases h
def LP.cut (b j n : Nat) : LP := ⟨fun M => ∃ cs, M[b]? = some (.box cs) ∧ j + n ≤ cs.length, fun M M' ⟨cs, h1, h2⟩ f => ⟨cs, by rw [f.2 b (List.getElem?_eq_some_iff.1 h1).1 (by simp)]; exact h1, h2⟩⟩
section
variable {P : Program} {ops : Array Oper} {todo done : List Nat} {Ls : List (Nat × LP)} {rest : List Oper} {K : List Value → Mem → Prop} {t : List Value} {M : Mem}
variable {i : Nat} {dst : Option Tmp} {type : TypeId} {pos : String} {after : Array Edge}
theorem AL.cutW {ty : TypeId} {x : Operand} {lo hi : Option Operand} (ht : isArT P ty = true) (hok : okOpds ⟨dst, .slice ty x lo hi none, type, pos, after, none⟩ = true)
  (h : ptrK (ev t x) fun b j => ∃ n, arLen P ty = some n ∧ ∃ cs, M[b]? = some (.box cs) ∧ ∃ l, natOf (lo.map (ev t)) 0 = some l ∧ ∃ r, natOf (hi.map (ev t)) n = some r ∧ l ≤ r ∧ r ≤ n ∧ j + n ≤ cs.length ∧ AL P ops rest K (putT t dst (.slice (some ⟨b, j + l, none⟩) (r - l) (n - l))) M) : AL P ops (⟨dst, .slice ty x lo hi none, type, pos, after, none⟩ :: rest) K t M := by
 obtain ⟨b, j, hx, n, hn, cs, hM, l, hl, r, hr, h1, h2, h3, hc⟩ := ptrK_elim h
 obtain ⟨e, hu, hs⟩ := arLen_inv hn
 exact AL.op hok rfl (AOp.load (load_cut rfl hu hs hx hl hr ⟨h1, h2⟩) ⟨cs, hM, h3⟩ hc)
theorem AH.cutW {ty : TypeId} {x : Operand} {lo hi : Option Operand} (ht : isArT P ty = true) (hok : okOpds ⟨dst, .slice ty x lo hi none, type, pos, after, none⟩ = true)
  (h : ptrK (ev t x) fun b j => ∃ n, arLen P ty = some n ∧ ∃ cs, M[b]? = some (.box cs) ∧ ∃ l, natOf (lo.map (ev t)) 0 = some l ∧ ∃ r, natOf (hi.map (ev t)) n = some r ∧ l ≤ r ∧ r ≤ n ∧ j + n ≤ cs.length ∧ ADL P ops todo (i :: done) (Ls ++ [(i, LP.cut b j n)]) K (putT t dst (.slice (some ⟨b, j + l, none⟩) (r - l) (n - l))) M) : AH P ops dst (.slice ty x lo hi none) type pos after none i todo done Ls K t M := fun ho => by
 obtain ⟨b, j, hx, n, hn, cs, hM, l, hl, r, hr, h1, h2, h3, hc⟩ := ptrK_elim h
 obtain ⟨e, hu, hs⟩ := arLen_inv hn
 exact ADL.lp (LP.cut b j n) ho rfl hok rfl (load_cut rfl hu hs hx hl hr ⟨h1, h2⟩) ⟨cs, hM, h3⟩ hc
end
end Go.Proofs.Ytbdejnnbpdgjlaa.Ax
namespace Go.Proofs.Ytbdejnnbpdgjlaa.Ax
open Go Go.RowKit
open Nat renaming reduceAdd → ν1, reduceMul → ν2, reduceLeDiff → ν3, reduceLT → ν4, reduceSub → ν5
open Int renaming reduceNe → ζ1, reduceEq → ζ2, reduceLE → ζ3, reduceLT → ζ4, reduceToNat → ζ5
set_option linter.unusedVariables false
set_option linter.unusedSimpArgs false
set_option maxRecDepth 100000
set_option maxHeartbeats 20000000
attribute [local irreducible] thenA blockA scopeA retA AL AW AD ADL AH clrK CallA apure aload bload appK ptrK fnK ares szOk planOk okOps
theorem px_eq (p q : PX) : aeqV Try.prog 3 32 (.agg ⟨[.int .u32 p.1, .int .i64 p.2]⟩) (.agg ⟨[.int .u32 q.1, .int .i64 q.2]⟩) = some (decide (p = q)) := by
 have h : aeqV Try.prog 3 32 (.agg ⟨[.int .u32 p.1, .int .i64 p.2]⟩) (.agg ⟨[.int .u32 q.1, .int .i64 q.2]⟩) = if (p.1 == q.1) = true then (if (p.2 == q.2) = true then some true else some false) else some false := by kernel_rfl
 rw [h]
 obtain ⟨a, n⟩ := p
 obtain ⟨b, m⟩ := q
 by_cases h1 : a = b <;> by_cases h2 : n = m <;> simp [h1, h2]
theorem pxs_get {l : List PX} {i : Nat} (h : i < l.length) : (pxs l)[i * 2]? = some (.int .u32 (l.getD i (0, 0)).1) ∧ (pxs l)[i * 2 + 1]? = some (.int .i64 (l.getD i (0, 0)).2) := by
 induction l generalizing i with
 | nil => simp at h
 | cons p l ih =>
  cases i with
  | zero => exact ⟨rfl, rfl⟩
  | succ i =>
   have := ih (i := i) (by simpa using h)
   have e : pxs (p :: l) = .int .u32 p.1 :: .int .i64 p.2 :: pxs l := rfl
   rw [e, show (i + 1) * 2 = i * 2 + 1 + 1 by omega, show i * 2 + 1 + 1 + 1 = (i * 2 + 1) + 1 + 1 by omega]
   simpa using this
theorem Sl.lnX {M : Mem} {v : Value} {l : List PX} (h : Sl M v 2 (pxs l)) : sln v = l.length := by have := h.len; rw [pxs_length] at this; omega
theorem Sl.ldX {M : Mem} {v : Value} {l : List PX} (h : Sl M v 2 (pxs l)) {i : Nat} (hi : i < l.length) : aload Try.prog 32 M (sbk v) (sof v + i * 2) = some (.agg ⟨[.int .u32 (l.getD i (0, 0)).1, .int .i64 (l.getD i (0, 0)).2]⟩) := by
 have hc := h.cellsM (j := i * 2) (n := 2) (by omega) (by rw [pxs_length]; omega)
 obtain ⟨g1, g2⟩ := pxs_get hi
 have e : ((pxs l).drop (i * 2)).take 2 = [.int .u32 (l.getD i (0, 0)).1, .int .i64 (l.getD i (0, 0)).2] := by
  apply List.ext_getElem?
  intro j
  rw [List.getElem?_take, List.getElem?_drop]
  match j with
  | 0 => simpa using g1
  | 1 => simpa using g2
  | j + 2 => rw [if_neg (by omega)]; rfl
 rw [e] at hc
 have hu : ∃ fs, Try.prog.underlying 32 = some (.struct fs) := ⟨_, Try.underlying32⟩
 obtain ⟨fs, hu⟩ := hu
 have ht : tsz Try.prog 32 = some 2 := by kernel_rfl
 unfold aload
 rw [hu]
 simp only [ht, Option.bind_some]
 rw [hc]; rfl
theorem d44_Kp2 {g n : Prop} (k : n) (h : n → g := by first | exact AW.dr (id := 1) (by rfl) [0, 1, 2, 3, 4, 5, 6, 7, 8, 9, 10, 11, 12, 13, 14, 15, 16, 17, 18, 19, 20, 21, 22, 23, 24, 25, 26] (by kernel_rfl) (by kernel_rfl)) : g := h k
theorem a44_Kp2 {g n : Prop} (k : n) (h : n → g := by first | exact AH.ca (dst := some 7) rfl) : g := h k
theorem d16_Kp2 {g n : Prop} (k : n) (h : n → g := by first | exact AW.dr (id := 1) (by rfl) [0, 1, 2, 3, 4, 5, 6, 7, 8, 9, 10, 11, 12, 13, 14, 15, 16, 17, 18, 19, 20, 21, 22, 23, 24, 25, 26, 27, 28, 29] (by kernel_rfl) (by kernel_rfl)) : g := h k
theorem a16_Kp2 {g n : Prop} (k : n) (h : n → g := by first | exact AH.caN (dst := some 6) rfl (by kernel_rfl)) : g := h k
theorem xor0 (a b : Nat) : a ^^^ b = 0 ↔ a = b :=
 ⟨fun h => Nat.eq_of_testBit_eq fun i => by have := congrArg (fun n => n.testBit i) h; simpa using this, fun h => by rw [h]; exact Nat.xor_self b⟩
theorem xor_shift (a b k : Nat) : (a ^^^ b) / 2 ^ k = 0 ↔ a / 2 ^ k = b / 2 ^ k := by
 rw [← Nat.shiftRight_eq_div_pow, ← Nat.shiftRight_eq_div_pow, ← Nat.shiftRight_eq_div_pow, Nat.shiftRight_xor_distrib]
 exact xor0 _ _
theorem xor32 {x y : Int} (hx : 0 ≤ x ∧ x ≤ 4294967295) (hy : 0 ≤ y ∧ y ≤ 4294967295) : bits .u32 (BitVec.ofInt IntKind.u32.bits x ^^^ BitVec.ofInt IntKind.u32.bits y) = .int .u32 ((x.toNat ^^^ y.toNat : Nat) : Int) := by
 obtain ⟨a, rfl⟩ : ∃ a : Nat, x = a := ⟨x.toNat, by omega⟩
 obtain ⟨b, rfl⟩ : ∃ b : Nat, y = b := ⟨y.toNat, by omega⟩
 have ea : (BitVec.ofInt IntKind.u32.bits (a : Int)).toNat = a := by
  rw [BitVec.ofInt_natCast, BitVec.toNat_ofNat]
  exact Nat.mod_eq_of_lt (by show a < 2 ^ 32; omega)
 have eb : (BitVec.ofInt IntKind.u32.bits (b : Int)).toNat = b := by
  rw [BitVec.ofInt_natCast, BitVec.toNat_ofNat]
  exact Nat.mod_eq_of_lt (by show b < 2 ^ 32; omega)
 have hlt : a ^^^ b < 2 ^ 32 := Nat.xor_lt_two_pow (by omega) (by omega)
 unfold bits
 rw [BitVec.toNat_xor, ea, eb, Int.toNat_natCast, Int.toNat_natCast]
 congr 1
 exact w_u32 (by omega) (by omega)
theorem pbegins_spec (a : Int) (p : PX) (M : Mem) (ha : 0 ≤ a ∧ a ≤ 4294967295) (hp : 0 ≤ p.1 ∧ p.1 ≤ 4294967295) (h0 : 0 ≤ p.2) (h32 : p.2 ≤ 32) : CallA Try.prog 51 [.int .u32 a, .agg ⟨[.int .u32 p.1, .int .i64 p.2]⟩] M fun r M' => Fr M M' [] ∧ r = .bool (decide (beginsP a p)) := by
 have hx := xor32 ha hp
 obtain ⟨k, hk⟩ : ∃ k : Nat, k = 32 - p.2.toNat := ⟨_, rfl⟩
 obtain ⟨X, hX⟩ : ∃ X : Nat, X = a.toNat ^^^ p.1.toNat := ⟨_, rfl⟩
 rw [← hX] at hx
 have hXl : X < 2 ^ 32 := by rw [hX]; exact Nat.xor_lt_two_pow (by omega) (by omega)
 have w1 : IntKind.u64.wrap (X : Int) = X := w_u64 (by omega) (by omega)
 have w2 : IntKind.i64.wrap (32 - p.2) = (k : Int) := by rw [w_i64 (by omega) (by omega)]; omega
 have hm : min k IntKind.u64.bits = k := Nat.min_eq_left (by show k ≤ 64; omega)
 have hp2 := pow_pos32 k
 obtain ⟨Y, hY⟩ : ∃ Y : Nat, Y = X / 2 ^ k := ⟨_, rfl⟩
 have hf : (X : Int).fdiv (2 ^ k) = (Y : Int) := by rw [fdiv_in (by omega), hY]; push_cast; rfl
 have key : ((Y : Int) = 0) ↔ beginsP a p := by
  unfold beginsP spanN
  rw [← hk]
  obtain ⟨b, hb⟩ : ∃ b : Nat, a = b := ⟨a.toNat, by omega⟩
  obtain ⟨d, hd⟩ : ∃ d : Nat, p.1 = d := ⟨p.1.toNat, by omega⟩
  rw [hb, hd, Int.toNat_natCast, Int.toNat_natCast] at hX
  rw [hb, hd]
  have h := xor_shift b d k
  rw [← hX] at h
  constructor
  ·intro e
   have := h.1 (by rw [← hY]; exact_mod_cast e)
   exact_mod_cast this
  ·intro e
   have : b / 2 ^ k = d / 2 ^ k := by exact_mod_cast e
   rw [hY]; exact_mod_cast h.2 this
 have hdec : decide ((Y : Int) = 0) = decide (beginsP a p) := by
  by_cases c : beginsP a p
  ·rw [decide_eq_true c, decide_eq_true (key.2 c)]
  ·rw [decide_eq_false c, decide_eq_false fun h => c (key.1 h)]
 (refine CallA.of_body Try.func51 rfl (by rfl) ?_; simp only [Try.ntmps51, List.length_cons, List.length_nil, List.replicate, List.cons_append, List.nil_append, Nat.reduceSub, Nat.reduceAdd])
 (repeat (first | refine st ?_ | refine σa ?_ | (refine σb ?_; simp (disch := omega) only [push_cast, ↓reduceIte, reduceCtorEq, ν1, ν2, ν3, ν4, ν5, ζ1, ζ2, ζ3, ζ4, ζ5, hx, w1, w2, hm, hf, Int.toNat_natCast, memE, boxE, buildE])))
 ((first | refine retA.ret (by rfl) ?_ | refine retA.normal (by rfl) ?_); simp (disch := omega) only [push_cast, ↓reduceIte, reduceCtorEq, Nat.reduceAdd, Nat.reduceMul, Nat.reduceLeDiff, Nat.reduceLT, Nat.reduceSub, Int.reduceNe, Int.reduceEq, Int.reduceLE, Int.reduceLT, Int.reduceToNat])
 exact ⟨Fr.push _ _, by rw [hdec]⟩
theorem pfright_spec (r : RG) (M : Mem) (h : goodR r) : CallA Try.prog 44 [.agg ⟨rgL r⟩] M fun v M' => Fr M M' [] ∧ v = .bool (decide (rightR r)) := by
 have P0 := Fr.push M (.box (rgL r))
 have A0 := At.push M (.box (rgL r))
 unfold rgL at P0 A0 ⊢
 (refine CallA.of_body Try.func44 rfl (by rfl) ?_; simp only [Try.ntmps44, List.length_cons, List.length_nil, List.replicate, List.cons_append, List.nil_append, Nat.reduceSub, Nat.reduceAdd])
 (repeat (first | refine st ?_ | refine σa ?_ | refine d44_Kp2 ?_ | ((first | refine a44_Kp2 ?_ | refine σb ?_ | refine σc ?_); simp (disch := omega) only [push_cast, ↓reduceIte, reduceCtorEq, ν1, ν2, ν3, ν4, ν5, ζ1, ζ2, ζ3, ζ4, ζ5, A0.ld, buildE])))
 refine (gmask_spec r.base _ h).mono ?_
 rintro v M2 ⟨F2, rfl⟩
 refine ⟨F2, ?_⟩
 have pe := px_eq r.base (maskP r.base)
 have A2 := A0.keep F2 (by simp)
 have FF := P0.tr F2
 by_cases c1 : r.base = maskP r.base
 rotate_left
 ·have d1 : decide (r.base = maskP r.base) = false := decide_eq_false c1
  (repeat (first | refine st ?_ | refine σa ?_ | refine d44_Kp2 ?_ | ((first | refine a44_Kp2 ?_ | refine σb ?_ | refine σc ?_); simp (disch := omega) only [push_cast, ↓reduceIte, reduceCtorEq, ν1, ν2, ν3, ν4, ν5, ζ1, ζ2, ζ3, ζ4, ζ5, A2.ld, pe, aggB, d1, Bool.not_true, Bool.not_false, buildE])))
  ((first | refine retA.ret (by rfl) ?_ | refine retA.normal (by rfl) ?_); simp (disch := omega) only [push_cast, ↓reduceIte, reduceCtorEq, Nat.reduceAdd, Nat.reduceMul, Nat.reduceLeDiff, Nat.reduceLT, Nat.reduceSub, Int.reduceNe, Int.reduceEq, Int.reduceLE, Int.reduceLT, Int.reduceToNat])
  exact ⟨FF, by rw [decide_eq_false (fun h : rightR r => c1 h.1)]⟩
 have d1 : decide (r.base = maskP r.base) = true := decide_eq_true c1
 by_cases c2 : r.ge ≥ r.base.2
 rotate_left
 ·have d2 : decide (r.ge ≥ r.base.2) = false := decide_eq_false c2
  (repeat (first | refine st ?_ | refine σa ?_ | refine d44_Kp2 ?_ | ((first | refine a44_Kp2 ?_ | refine σb ?_ | refine σc ?_); simp (disch := omega) only [push_cast, ↓reduceIte, reduceCtorEq, ν1, ν2, ν3, ν4, ν5, ζ1, ζ2, ζ3, ζ4, ζ5, A2.ld, pe, aggB, d1, d2, Bool.not_true, Bool.not_false, buildE])))
  ((first | refine retA.ret (by rfl) ?_ | refine retA.normal (by rfl) ?_); simp (disch := omega) only [push_cast, ↓reduceIte, reduceCtorEq, Nat.reduceAdd, Nat.reduceMul, Nat.reduceLeDiff, Nat.reduceLT, Nat.reduceSub, Int.reduceNe, Int.reduceEq, Int.reduceLE, Int.reduceLT, Int.reduceToNat])
  exact ⟨FF, by rw [decide_eq_false (fun h : rightR r => c2 h.2.1)]⟩
 have d2 : decide (r.ge ≥ r.base.2) = true := decide_eq_true c2
 by_cases c3 : r.le ≥ r.ge
 rotate_left
 ·have d3 : decide (r.le ≥ r.ge) = false := decide_eq_false c3
  (repeat (first | refine st ?_ | refine σa ?_ | refine d44_Kp2 ?_ | ((first | refine a44_Kp2 ?_ | refine σb ?_ | refine σc ?_); simp (disch := omega) only [push_cast, ↓reduceIte, reduceCtorEq, ν1, ν2, ν3, ν4, ν5, ζ1, ζ2, ζ3, ζ4, ζ5, A2.ld, pe, aggB, d1, d2, d3, Bool.not_true, Bool.not_false, buildE])))
  ((first | refine retA.ret (by rfl) ?_ | refine retA.normal (by rfl) ?_); simp (disch := omega) only [push_cast, ↓reduceIte, reduceCtorEq, Nat.reduceAdd, Nat.reduceMul, Nat.reduceLeDiff, Nat.reduceLT, Nat.reduceSub, Int.reduceNe, Int.reduceEq, Int.reduceLE, Int.reduceLT, Int.reduceToNat])
  exact ⟨FF, by rw [decide_eq_false (fun h : rightR r => c3 h.2.2.1)]⟩
 have d3 : decide (r.le ≥ r.ge) = true := decide_eq_true c3
 obtain ⟨b4, d4⟩ : ∃ b, decide (r.le ≤ 32) = b := ⟨_, rfl⟩
 (repeat (first | refine st ?_ | refine σa ?_ | refine d44_Kp2 ?_ | ((first | refine a44_Kp2 ?_ | refine σb ?_ | refine σc ?_); simp (disch := omega) only [push_cast, ↓reduceIte, reduceCtorEq, ν1, ν2, ν3, ν4, ν5, ζ1, ζ2, ζ3, ζ4, ζ5, A2.ld, pe, aggB, d1, d2, d3, d4, Bool.not_true, Bool.not_false, buildE])))
 ((first | refine retA.ret (by rfl) ?_ | refine retA.normal (by rfl) ?_); simp (disch := omega) only [push_cast, ↓reduceIte, reduceCtorEq, Nat.reduceAdd, Nat.reduceMul, Nat.reduceLeDiff, Nat.reduceLT, Nat.reduceSub, Int.reduceNe, Int.reduceEq, Int.reduceLE, Int.reduceLT, Int.reduceToNat])
 refine ⟨FF, ?_⟩
 rw [← d4]
 congr 1
 by_cases c4 : r.le ≤ 32
 ·rw [decide_eq_true c4, decide_eq_true (show rightR r from ⟨c1, c2, c3, c4⟩)]
 ·rw [decide_eq_false c4, decide_eq_false (fun h : rightR r => c4 h.2.2.2)]
theorem rgL_ld (P : Program) (ty : TypeId) (r : RG) (j : Nat) : bload P ty (rgL r) j = bload P ty [.int .u32 r.base.1, .int .i64 r.base.2, .int .i64 r.ge, .int .i64 r.le] j := rfl
theorem pfin_spec (r : RG) (p : PX) (M : Mem) (h : goodR r) (hp : 0 ≤ p.1 ∧ p.1 ≤ 4294967295) : CallA Try.prog 16 [.agg ⟨rgL r⟩, .agg ⟨[.int .u32 p.1, .int .i64 p.2]⟩] M fun v M' => Fr M M' [] ∧ v = .bool (decide (inR r p)) := by
 have P0 := Fr.push2 M (.box (rgL r)) (.box [.int .u32 p.1, .int .i64 p.2])
 have A0 := (At.push M (.box (rgL r))).keep (Fr.push _ (.box [.int .u32 p.1, .int .i64 p.2])) (by simp)
 have B0 := At.push (M ++ [.box (rgL r)]) (.box [.int .u32 p.1, .int .i64 p.2])
 rw [List.length_append, List.length_singleton] at B0
 unfold rgL at P0 A0 B0
 unfold rgL
 (refine CallA.of_body Try.func16 rfl (by rfl) ?_; simp only [Try.ntmps16, List.length_cons, List.length_nil, List.replicate, List.cons_append, List.nil_append, Nat.reduceSub, Nat.reduceAdd])
 (repeat (first | refine st ?_ | refine σa ?_ | (refine σb ?_; simp (disch := omega) only [push_cast, ↓reduceIte, reduceCtorEq, ν1, ν2, ν3, ν4, ν5, ζ1, ζ2, ζ3, ζ4, ζ5, memE, boxE, buildE])))
 simp only [List.length_append, List.length_cons, List.length_nil, Nat.zero_add]
 generalize M ++ [Blk.box [.int .u32 r.base.1, .int .i64 r.base.2, .int .i64 r.ge, .int .i64 r.le]] ++ [Blk.box [.int .u32 p.1, .int .i64 p.2]] = M0 at *
 obtain ⟨s, hs⟩ : ∃ s, s = M.length := ⟨_, rfl⟩
 rw [← hs] at A0 B0 ⊢
 have px := px_eq p (maskP p)
 have fin : ∀ {M' : Mem} {b : Bool}, Fr M M' [] → (b = true ↔ inR r p) → Fr M M' [] ∧ (.bool b : Value) = .bool (decide (inR r p)) := by
  intro M' b f hb
  refine ⟨f, congrArg _ ?_⟩
  rw [Bool.eq_iff_iff, decide_eq_true_eq]; exact hb
 (repeat (first | refine st ?_ | refine σa ?_ | refine d16_Kp2 ?_ | ((first | refine a16_Kp2 ?_ | refine σb ?_ | refine σc ?_); simp (disch := omega) only [push_cast, ↓reduceIte, reduceCtorEq, ν1, ν2, ν3, ν4, ν5, ζ1, ζ2, ζ3, ζ4, ζ5, A0.ld, buildE])))
 refine (pfright_spec r M0 h).mono ?_
 rintro v M1 ⟨F1, rfl⟩
 have A1 := A0.keep F1 (by simp)
 have B1 := B0.keep F1 (by simp)
 have F01 := P0.tr F1
 by_cases c1 : rightR r
 rotate_left
 ·rw [decide_eq_false c1]
  (repeat (first | refine st ?_ | refine σa ?_ | refine d16_Kp2 ?_ | ((first | refine a16_Kp2 ?_ | refine σb ?_ | refine σc ?_); simp (disch := omega) only [push_cast, ↓reduceIte, reduceCtorEq, ν1, ν2, ν3, ν4, ν5, ζ1, ζ2, ζ3, ζ4, ζ5])))
  ((first | refine retA.ret (by rfl) ?_ | refine retA.normal (by rfl) ?_); simp (disch := omega) only [push_cast, ↓reduceIte, reduceCtorEq, Nat.reduceAdd, Nat.reduceMul, Nat.reduceLeDiff, Nat.reduceLT, Nat.reduceSub, Int.reduceNe, Int.reduceEq, Int.reduceLE, Int.reduceLT, Int.reduceToNat])
  exact fin F01 (by simp [inR, c1])
 rw [decide_eq_true c1]
 (repeat (first | refine st ?_ | refine σa ?_ | refine d16_Kp2 ?_ | ((first | refine a16_Kp2 ?_ | refine σb ?_ | refine σc ?_); simp (disch := omega) only [push_cast, ↓reduceIte, reduceCtorEq, ν1, ν2, ν3, ν4, ν5, ζ1, ζ2, ζ3, ζ4, ζ5, A1.ld, B1.ld, buildE])))
 refine (gmask_spec p M1 hp).mono ?_
 rintro v M2 ⟨F2, rfl⟩
 have A2 := A1.keep F2 (by simp)
 have B2 := B1.keep F2 (by simp)
 have F02 := F01.tr F2
 refine ⟨F2, ?_⟩
 by_cases c2 : p = maskP p
 rotate_left
 ·have d2 : decide (p = maskP p) = false := decide_eq_false c2
  (repeat (first | refine st ?_ | refine σa ?_ | refine d16_Kp2 ?_ | ((first | refine a16_Kp2 ?_ | refine σb ?_ | refine σc ?_); simp (disch := omega) only [push_cast, ↓reduceIte, reduceCtorEq, ν1, ν2, ν3, ν4, ν5, ζ1, ζ2, ζ3, ζ4, ζ5, A2.ld, B2.ld, px, aggB, d2, buildE])))
  ((first | refine retA.ret (by rfl) ?_ | refine retA.normal (by rfl) ?_); simp (disch := omega) only [push_cast, ↓reduceIte, reduceCtorEq, Nat.reduceAdd, Nat.reduceMul, Nat.reduceLeDiff, Nat.reduceLT, Nat.reduceSub, Int.reduceNe, Int.reduceEq, Int.reduceLE, Int.reduceLT, Int.reduceToNat])
  exact fin F02 (by simp [inR, rightX, c2])
 have d2 : decide (p = maskP p) = true := decide_eq_true c2
 by_cases c3 : p.2 ≥ r.ge
 rotate_left
 ·have d3 : decide (p.2 ≥ r.ge) = false := decide_eq_false c3
  (repeat (first | refine st ?_ | refine σa ?_ | refine d16_Kp2 ?_ | ((first | refine a16_Kp2 ?_ | refine σb ?_ | refine σc ?_); simp (disch := omega) only [push_cast, ↓reduceIte, reduceCtorEq, ν1, ν2, ν3, ν4, ν5, ζ1, ζ2, ζ3, ζ4, ζ5, A2.ld, B2.ld, px, aggB, d2, d3, buildE])))
  ((first | refine retA.ret (by rfl) ?_ | refine retA.normal (by rfl) ?_); simp (disch := omega) only [push_cast, ↓reduceIte, reduceCtorEq, Nat.reduceAdd, Nat.reduceMul, Nat.reduceLeDiff, Nat.reduceLT, Nat.reduceSub, Int.reduceNe, Int.reduceEq, Int.reduceLE, Int.reduceLT, Int.reduceToNat])
  exact fin F02 ⟨fun h => (by cases h), fun h => absurd h.2.2.1 c3⟩
 have d3 : decide (p.2 ≥ r.ge) = true := decide_eq_true c3
 by_cases c4 : p.2 ≤ r.le
 rotate_left
 ·have d4 : decide (p.2 ≤ r.le) = false := decide_eq_false c4
  (repeat (first | refine st ?_ | refine σa ?_ | refine d16_Kp2 ?_ | ((first | refine a16_Kp2 ?_ | refine σb ?_ | refine σc ?_); simp (disch := omega) only [push_cast, ↓reduceIte, reduceCtorEq, ν1, ν2, ν3, ν4, ν5, ζ1, ζ2, ζ3, ζ4, ζ5, A2.ld, B2.ld, px, aggB, d2, d3, d4, buildE])))
  ((first | refine retA.ret (by rfl) ?_ | refine retA.normal (by rfl) ?_); simp (disch := omega) only [push_cast, ↓reduceIte, reduceCtorEq, Nat.reduceAdd, Nat.reduceMul, Nat.reduceLeDiff, Nat.reduceLT, Nat.reduceSub, Int.reduceNe, Int.reduceEq, Int.reduceLE, Int.reduceLT, Int.reduceToNat])
  exact fin F02 ⟨fun h => (by cases h), fun h => absurd h.2.2.2.1 c4⟩
 have d4 : decide (p.2 ≤ r.le) = true := decide_eq_true c4
 have hl := rightX_len c1.1
 (repeat (first | refine st ?_ | refine σa ?_ | refine d16_Kp2 ?_ | ((first | refine a16_Kp2 ?_ | refine σb ?_ | refine σc ?_); simp (disch := omega) only [push_cast, ↓reduceIte, reduceCtorEq, ν1, ν2, ν3, ν4, ν5, ζ1, ζ2, ζ3, ζ4, ζ5, A2.ld, B2.ld, px, aggB, d2, d3, d4, buildE])))
 refine (pbegins_spec p.1 r.base M2 hp h hl.1 hl.2).mono ?_
 rintro v M3 ⟨F3, rfl⟩
 refine ⟨F3, ?_⟩
 (repeat (first | refine st ?_ | refine σa ?_ | refine d16_Kp2 ?_ | ((first | refine a16_Kp2 ?_ | refine σb ?_ | refine σc ?_); simp (disch := omega) only [push_cast, ↓reduceIte, reduceCtorEq, ν1, ν2, ν3, ν4, ν5, ζ1, ζ2, ζ3, ζ4, ζ5])))
 ((first | refine retA.ret (by rfl) ?_ | refine retA.normal (by rfl) ?_); simp (disch := omega) only [push_cast, ↓reduceIte, reduceCtorEq, Nat.reduceAdd, Nat.reduceMul, Nat.reduceLeDiff, Nat.reduceLT, Nat.reduceSub, Int.reduceNe, Int.reduceEq, Int.reduceLE, Int.reduceLT, Int.reduceToNat])
 refine fin (F02.tr F3) ?_
 rw [decide_eq_true_eq]
 exact ⟨fun h => ⟨c1, c2, c3, c4, h⟩, fun h => h.2.2.2.2⟩
end Go.Proofs.Ytbdejnnbpdgjlaa.Ax
