/- Contracts of functions over the abstract machine. No conditions: lemmas alone. -/
import Derived.Test.YtbjipdmbdabniaaAttrBackLibD
namespace Go.Proofs.Ytbjipdmbdabniaa.Ax
open Go Go.RowKit
set_option linter.unusedVariables false
set_option linter.unusedSimpArgs false
set_option maxRecDepth 100000
set_option maxHeartbeats 20000000
attribute [local irreducible] thenA blockA scopeA retA AL AW AD ADL AH clrK CallA apure aload bload appK ptrK fnK ares szOk planOk okOps
@[push_cast] theorem SlLit : (∀ a n c, isSl (.slice a n c) = true) ∧ (∀ a n c, sln (.slice a n c) = n) ∧ (∀ a n c, scp (.slice a n c) = c) ∧ (∀ b o s n c, sbk (.slice (some ⟨b, o, s⟩) n c) = b) ∧ (∀ b o s n c, sof (.slice (some ⟨b, o, s⟩) n c) = o) :=
  ⟨fun _ _ _ => rfl, fun _ _ _ => rfl, fun _ _ _ => rfl, fun _ _ _ _ _ => rfl, fun _ _ _ _ _ => rfl⟩
theorem isNaN_spec (n : Int) (M : Mem) : CallA Try.prog 68 [.int .u32 n] M fun v M' => v = .bool false ∧ M' = M := by
  (refine CallA.of_body Try.func68 rfl (by rfl) ?_; simp only [Try.ntmps68, List.length_cons, List.length_nil, List.replicate, List.cons_append, List.nil_append, Nat.reduceSub, Nat.reduceAdd])
  (repeat (first | refine st ?_ | refine AW.label ?_ | refine blockA.here ?_ | refine blockA.exit rfl ?_ | (refine And.intro (by omega) ?_) | (refine AW.condT rfl rfl (by first | rfl | assumption) ?_) | (refine AW.condF rfl rfl (by first | rfl | assumption) ?_) | (refine AL.guT rfl (by first | rfl | assumption) ?_) | ((first | refine AL.ld rfl ?_ | refine AL.bx rfl ?_ | refine AL.al ?_ | refine AL.lt rfl ?_ | refine AL.st rfl rfl ?_ | refine AL.ap rfl rfl ?_ | refine AL.ca rfl ?_ | refine AL.slW (by kernel_rfl) rfl ?_ | refine AL.pu rfl ?_ | refine AL.guF rfl (by first | rfl | assumption) ?_); simp (disch := omega) only [Option.some.injEq, TypeDesc.slice.injEq, exists_eq_left', push_cast, ↓reduceIte, reduceCtorEq, Nat.reduceAdd, Nat.reduceMul, Nat.reduceLeDiff, Nat.reduceLT, Nat.reduceSub, Int.reduceNe, Int.reduceEq, Int.reduceLE, Int.reduceLT, Int.reduceToNat])))
  ((first | refine retA.ret (by rfl) ?_ | refine retA.normal (by rfl) ?_); simp (disch := omega) only [push_cast, ↓reduceIte, reduceCtorEq, Nat.reduceAdd, Nat.reduceMul, Nat.reduceLeDiff, Nat.reduceLT, Nat.reduceSub, Int.reduceNe, Int.reduceEq, Int.reduceLE, Int.reduceLT, Int.reduceToNat])
  simp
theorem less_spec (a b : Int) (M : Mem) : CallA Try.prog 58 [.int .u32 a, .int .u32 b] M fun v M' => v = .bool (decide (a < b)) ∧ M' = M := by
  (refine CallA.of_body Try.func58 rfl (by rfl) ?_; simp only [Try.ntmps58, List.length_cons, List.length_nil, List.replicate, List.cons_append, List.nil_append, Nat.reduceSub, Nat.reduceAdd])
  (repeat (first | refine st ?_ | refine AW.label ?_ | refine blockA.here ?_ | refine blockA.exit rfl ?_ | (refine And.intro (by omega) ?_) | (refine AW.condT rfl rfl (by first | rfl | assumption) ?_) | (refine AW.condF rfl rfl (by first | rfl | assumption) ?_) | (refine AL.guT rfl (by first | rfl | assumption) ?_) | ((first | refine AL.ld rfl ?_ | refine AL.bx rfl ?_ | refine AL.al ?_ | refine AL.lt rfl ?_ | refine AL.st rfl rfl ?_ | refine AL.ap rfl rfl ?_ | refine AL.ca rfl ?_ | refine AL.slW (by kernel_rfl) rfl ?_ | refine AL.pu rfl ?_ | refine AL.guF rfl (by first | rfl | assumption) ?_); simp (disch := omega) only [Option.some.injEq, TypeDesc.slice.injEq, exists_eq_left', push_cast, ↓reduceIte, reduceCtorEq, Nat.reduceAdd, Nat.reduceMul, Nat.reduceLeDiff, Nat.reduceLT, Nat.reduceSub, Int.reduceNe, Int.reduceEq, Int.reduceLE, Int.reduceLT, Int.reduceToNat])))
  refine (isNaN_spec _ _).mono ?_
  rintro r M1 ⟨rfl, rfl⟩
  (repeat (first | refine st ?_ | refine AW.label ?_ | refine blockA.here ?_ | refine blockA.exit rfl ?_ | (refine And.intro (by omega) ?_) | (refine AW.condT rfl rfl (by first | rfl | assumption) ?_) | (refine AW.condF rfl rfl (by first | rfl | assumption) ?_) | (refine AL.guT rfl (by first | rfl | assumption) ?_) | ((first | refine AL.ld rfl ?_ | refine AL.bx rfl ?_ | refine AL.al ?_ | refine AL.lt rfl ?_ | refine AL.st rfl rfl ?_ | refine AL.ap rfl rfl ?_ | refine AL.ca rfl ?_ | refine AL.slW (by kernel_rfl) rfl ?_ | refine AL.pu rfl ?_ | refine AL.guF rfl (by first | rfl | assumption) ?_); simp (disch := omega) only [Option.some.injEq, TypeDesc.slice.injEq, exists_eq_left', push_cast, ↓reduceIte, reduceCtorEq, Nat.reduceAdd, Nat.reduceMul, Nat.reduceLeDiff, Nat.reduceLT, Nat.reduceSub, Int.reduceNe, Int.reduceEq, Int.reduceLE, Int.reduceLT, Int.reduceToNat])))
  ((first | refine retA.ret (by rfl) ?_ | refine retA.normal (by rfl) ?_); simp (disch := omega) only [push_cast, ↓reduceIte, reduceCtorEq, Nat.reduceAdd, Nat.reduceMul, Nat.reduceLeDiff, Nat.reduceLT, Nat.reduceSub, Int.reduceNe, Int.reduceEq, Int.reduceLE, Int.reduceLT, Int.reduceToNat])
/-- A slice of numbers within one of our own rows, as memory has it. -/
structure Rw (M : Mem) (b off n c : Nat) (pre post : List Value) (xs : List Int) : Prop where
  get : M[b]? = some (.row true 1 (pre ++ ints .u32 xs ++ post))
  len : xs.length = n
  off : pre.length = off
  cap : n ≤ capLb c
  pos : c ≠ 0
theorem spl_mid (pre post : List Value) (xs : List Int) (i : Nat) (y : Int) (h : i < xs.length) : spl (pre ++ ints .u32 xs ++ post) (pre.length + i) [.int .u32 y] = pre ++ ints .u32 (xs.set i y) ++ post := by
  rw [spl_one _ _ _ (by simp [ints]; omega), List.append_assoc, List.append_assoc, List.set_append_right _ _ (by omega), Nat.add_sub_cancel_left, List.set_append_left _ _ (by simpa [ints] using h)]
  simp [ints, List.map_set]
section
variable {M : Mem} {b off n c : Nat} {pre post : List Value} {xs : List Int}
theorem Rw.lt (h : Rw M b off n c pre post xs) : b < M.length := (List.getElem?_eq_some_iff.1 h.get).1
theorem Rw.at (h : Rw M b off n c pre post xs) : At M b (.row true 1 (pre ++ ints .u32 xs ++ post)) := ⟨h.get⟩
theorem Rw.ld (h : Rw M b off n c pre post xs) {i : Nat} (hi : i < n) : aload Try.prog 25 M b (off + i) = some (.int .u32 (xs.getD i 0)) := by
  rw [← h.len] at hi
  rw [h.at.ld]
  have hu : Try.prog.underlying 25 = some (.int .u32) := by kernel_rfl
  unfold bload
  rw [hu]
  simp only [Blk.cells]
  rw [← h.off, List.append_assoc, List.getElem?_append_right (by omega), Nat.add_sub_cancel_left, List.getElem?_append_left (by simpa [ints] using hi)]
  simp [ints, List.getElem?_map, List.getElem?_eq_getElem hi]
theorem Rw.spl (h : Rw M b off n c pre post xs) {i : Nat} (hi : i < n) (y : Int) : spl (pre ++ ints .u32 xs ++ post) (off + i) [.int .u32 y] = pre ++ ints .u32 (xs.set i y) ++ post := by
  rw [← h.off]; exact spl_mid pre post xs i y (by rw [h.len]; exact hi)
theorem Rw.room (h : Rw M b off n c pre post xs) {i : Nat} (hi : i < n) : off + i + 1 ≤ (pre ++ ints .u32 xs ++ post).length := by
  have := h.off
  have := h.len
  simp [ints]
  omega
theorem Rw.put (h : Rw M b off n c pre post xs) {ys : List Int} (hl : ys.length = xs.length) : Rw (M.set b (.row true 1 (pre ++ ints .u32 ys ++ post))) b off n c pre post ys :=
  ⟨List.getElem?_set_self h.lt, hl.trans h.len, h.off, h.cap, h.pos⟩
end
/-- Two places changed. -/
def swap (xs : List Int) (i j : Nat) : List Int := (xs.set i (xs.getD j 0)).set j (xs.getD i 0)
theorem swap_length (xs : List Int) (i j : Nat) : (swap xs i j).length = xs.length := by simp [swap]
theorem swap_perm {xs : List Int} {i j : Nat} (hi : i < xs.length) (hj : j < xs.length) : (swap xs i j).Perm xs := by
  have := List.set_set_perm hi hj
  unfold swap
  rw [List.getD_eq_getElem?_getD, List.getD_eq_getElem?_getD, List.getElem?_eq_getElem hi, List.getElem?_eq_getElem hj]
  exact this
theorem swap_get {xs : List Int} {i j k : Nat} (hi : i < xs.length) (hj : j < xs.length) (hk : k < xs.length) : (swap xs i j).getD k 0 = if k = j then xs.getD i 0 else if k = i then xs.getD j 0 else xs.getD k 0 := by
  unfold swap
  simp only [List.getD_eq_getElem?_getD, List.getElem?_set, List.length_set]
  by_cases h1 : k = j
  · subst h1; simp [hj]
  · rw [if_neg (fun e => h1 e.symm), if_neg h1]
    by_cases h2 : k = i
    · subst h2; simp [hi]
    · rw [if_neg (fun e => h2 e.symm), if_neg h2]
/-- The same numbers, and the same order without these places. -/
structure PermOn (lo hi : Nat) (xs ys : List Int) : Prop where
  perm : ys.Perm xs
  out : ∀ i, i < lo ∨ hi ≤ i → ys.getD i 0 = xs.getD i 0
theorem PermOn.refl (lo hi : Nat) (xs : List Int) : PermOn lo hi xs xs := ⟨.refl _, fun _ _ => rfl⟩
theorem PermOn.trans {lo hi : Nat} {xs ys zs : List Int} (h : PermOn lo hi xs ys) (k : PermOn lo hi ys zs) : PermOn lo hi xs zs := ⟨k.perm.trans h.perm, fun i hi => (k.out i hi).trans (h.out i hi)⟩
theorem PermOn.len {lo hi : Nat} {xs ys : List Int} (h : PermOn lo hi xs ys) : ys.length = xs.length := h.perm.length_eq
theorem PermOn.mono {lo hi lo' hi' : Nat} {xs ys : List Int} (h : PermOn lo hi xs ys) (h1 : lo' ≤ lo) (h2 : hi ≤ hi') : PermOn lo' hi' xs ys := ⟨h.perm, fun i hi => h.out i (by omega)⟩
theorem PermOn.swap {lo hi i j : Nat} {xs : List Int} (h1 : lo ≤ i) (h2 : i < hi) (h3 : lo ≤ j) (h4 : j < hi) (h5 : hi ≤ xs.length) : PermOn lo hi xs (Ax.swap xs i j) := by
  refine ⟨swap_perm (by omega) (by omega), fun k hk => ?_⟩
  rcases Nat.lt_or_ge k xs.length with hl | hl
  · rw [swap_get (by omega) (by omega) hl, if_neg (by omega), if_neg (by omega)]
  · have e1 : xs.getD k 0 = 0 := by rw [List.getD_eq_getElem?_getD, List.getElem?_eq_none_iff.2 hl]; rfl
    have e2 : (Ax.swap xs i j).getD k 0 = 0 := by rw [List.getD_eq_getElem?_getD, List.getElem?_eq_none_iff.2 (by rw [swap_length]; exact hl)]; rfl
    rw [e1, e2]
/-- Rising between these places. -/
def SortOn (lo hi : Nat) (xs : List Int) : Prop := ∀ i j, lo ≤ i → i < j → j < hi → xs.getD i 0 ≤ xs.getD j 0

end Go.Proofs.Ytbjipdmbdabniaa.Ax
