/- Contracts of functions over the abstract machine. No conditions: lemmas alone. -/
import Derived.Test.YtbjipdmbdabniaaAttrBackLibD
import Derived.Test.YtbjipdmbdabniaaAttrBackL1
import Derived.Test.YtbjipdmbdabniaaAttrBackLy
import Derived.Test.YtbjipdmbdabniaaAttrBackSoP
namespace Go.Proofs.Ytbjipdmbdabniaa.Ax
open Go Go.RowKit
set_option linter.unusedVariables false
set_option linter.unusedSimpArgs false
set_option maxRecDepth 100000
set_option maxHeartbeats 20000000
attribute [local irreducible] thenA blockA scopeA retA AL AW AD ADL AH clrK CallA apure aload bload appK ptrK fnK ares szOk planOk okOps
def wordAt (xs : List Int) (i : Nat) : Int := xs.getD i 0 * 16777216 + xs.getD (i + 1) 0 * 65536 + xs.getD (i + 2) 0 * 256 + xs.getD (i + 3) 0
def words (xs : List Int) (k : Nat) : List Int := (List.range k).map fun j => wordAt xs (4 * j)
theorem words_succ (xs : List Int) (k : Nat) : words xs (k + 1) = words xs k ++ [wordAt xs (4 * k)] := by simp [words, List.range_succ]
theorem words_length (xs : List Int) (k : Nat) : (words xs k).length = k := by simp [words]
theorem getD_drop_take (xs : List Int) {a n i : Nat} (h : i < n) : ((xs.drop a).take n).getD i 0 = xs.getD (a + i) 0 := by
  rw [List.getD_eq_getElem?_getD, List.getD_eq_getElem?_getD, List.getElem?_take, if_pos h, List.getElem?_drop]
theorem list_spec (v : Value) (xs : List Int) (M : Mem) (hv : Sl M v 1 (ints .u8 xs)) (hl : xs.length % 4 = 0) (hx : xs.length ≤ 100000) (hb : ∀ x ∈ xs, 0 ≤ x ∧ x ≤ 255) : CallA Try.prog 35 [v] M fun r M' => New M M' r 1 (ints .u32 (words xs (xs.length / 4))) ∧ Fr M M' [] := by
  have hs := hv.isSl
  have hn := hv.lnI
  (refine CallA.of_body Try.func35 rfl (by rfl) ?_; simp only [Try.ntmps35, List.length_cons, List.length_nil, List.replicate, List.cons_append, List.nil_append, Nat.reduceSub, Nat.reduceAdd])
  (repeat (first | refine st ?_ | refine ADL.hd rfl ?_ | (refine And.intro (by omega) ?_) | refine AW.dr (id := 4) (by rfl) [0, 1, 2, 3, 4, 5] (by kernel_rfl) (by kernel_rfl) ?_ | ((first | refine AL.ld rfl ?_ | refine AL.al ?_ | refine AL.lt rfl ?_ | refine AL.st rfl rfl ?_ | refine AL.ap rfl rfl ?_ | refine AL.ca rfl ?_ | refine AL.pu rfl ?_ | refine AH.ld rfl ?_ | refine AH.al ?_ | refine AH.lt rfl ?_ | refine AH.stN rfl rfl (by kernel_rfl) ?_ | refine AH.apN rfl rfl (by kernel_rfl) ?_ | refine AH.ca (dst := some 10) rfl ?_ | refine AH.pu rfl rfl ?_); simp (disch := omega) only [push_cast, ↓reduceIte, reduceCtorEq, Nat.reduceAdd, Nat.reduceMul, Nat.reduceLeDiff, Nat.reduceLT, Nat.reduceSub, Int.reduceNe, Int.reduceEq, Int.reduceLE, Int.reduceLT, Int.reduceToNat])))
  refine (chunk_spec v _ hs).mono ?_
  rintro r M1 ⟨rfl, rfl⟩
  (repeat (first | refine st ?_ | refine ADL.hd rfl ?_ | (refine And.intro (by omega) ?_) | refine AW.dr (id := 4) (by rfl) [0, 1, 2, 3, 4, 5] (by kernel_rfl) (by kernel_rfl) ?_ | ((first | refine AL.ld rfl ?_ | refine AL.al ?_ | refine AL.lt rfl ?_ | refine AL.st rfl rfl ?_ | refine AL.ap rfl rfl ?_ | refine AL.ca rfl ?_ | refine AL.pu rfl ?_ | refine AH.ld rfl ?_ | refine AH.al ?_ | refine AH.lt rfl ?_ | refine AH.stN rfl rfl (by kernel_rfl) ?_ | refine AH.apN rfl rfl (by kernel_rfl) ?_ | refine AH.ca (dst := some 10) rfl ?_ | refine AH.pu rfl rfl ?_); simp (disch := omega) only [push_cast, ↓reduceIte, reduceCtorEq, Nat.reduceAdd, Nat.reduceMul, Nat.reduceLeDiff, Nat.reduceLT, Nat.reduceSub, Int.reduceNe, Int.reduceEq, Int.reduceLE, Int.reduceLT, Int.reduceToNat])))
  have hvk : ∀ M', Fr M M' [] → Sl M' v 1 (ints .u8 xs) := fun M' f => hv.keep f (by simp)
  have hlen : (M ++ [Blk.box [.slice none 0 0]] ++ [Blk.box [v], Blk.box [.int .i64 4]]).length = M.length + 3 := by simp
  have hn1 : (M ++ [Blk.box [.slice none 0 0]]).length = M.length + 1 := by simp
  refine AW.rangeN (fun k M' => Fr M M' [] ∧ At M' (M.length + 1) (.box [v]) ∧ At M' (M.length + 2) (.box [.int .i64 4]) ∧ ∃ out, At M' M.length (.box [out]) ∧ New M M' out 1 (ints .u32 (words xs k)) ∧ ∀ b ∈ blkOf out, M.length + 3 < b)
    (fun k => subsl v 1 (4 * k) (4 * k + min 4 (xs.length - 4 * k)) (min 4 (xs.length - 4 * k))) (xs.length / 4) rfl rfl rfl rfl rfl ?_ ?_ ?_ ?_ ?_
  · rintro k M' B ⟨h1, h2, h3, out, h4, h5, h6⟩
    have hf := Fr.set M' (M.length + 3) B
    rw [hlen]
    refine ⟨(h1.trans hf).cut (by intro x hx hlt; simp at hx; omega), h2.keep hf (by simp), h3.keep hf (by simp), out, h4.keep hf (by simp), h5.keep hf (fun b hb hx => ?_), h6⟩
    have := h6 b hb
    simp at hx
    omega
  · intro JJ hJJ hy M' h0
    have hq : (xs.length + 3) / 4 = xs.length / 4 := by omega
    rw [hn1]
    have := chunk1_spec (l := (M ++ [Blk.box [.slice none 0 0]] ++ [Blk.box [v], Blk.box [.int .i64 4]]).length) (b1 := M.length + 1) (b2 := M.length + 2) (J := JJ) hs hn hx (fun k M' h => ⟨(hJJ k M' h).2.1, (hJJ k M' h).2.2.1, hvk M' (hJJ k M' h).1⟩) (fun k M' hk h => hy k M' (by omega) h) h0
    rw [hq] at this
    exact this
  · intro B
    have hf : Fr M (M ++ [Blk.box [.slice none 0 0]] ++ [Blk.box [v], Blk.box [.int .i64 4]] ++ [B]) [] := ⟨by simp, fun b hb _ => by simp only [List.append_assoc]; rw [List.getElem?_append_left hb]⟩
    refine ⟨hf, ⟨by simp⟩, ⟨by simp⟩, .slice none 0 0, ⟨by simp⟩, ⟨?_, fun a n c h => by cases h⟩, fun b hb => by cases hb⟩
    exact (Own.nil _ (by omega) : Own _ (.slice none 0 0) 1 [])
  · rintro k M1 hk hJ
    simp (disch := omega) only [push_cast, ↓reduceIte, reduceCtorEq, Nat.reduceAdd, Nat.reduceMul, Nat.reduceLeDiff, Nat.reduceLT, Nat.reduceSub, Int.reduceNe, Int.reduceEq, Int.reduceLE, Int.reduceLT, Int.reduceToNat, setAll, List.zip_cons_cons, List.zip_nil_left]
    refine AW.region ?_
    (repeat (first | refine st ?_ | refine ADL.hd rfl ?_ | (refine And.intro (by omega) ?_) | refine AW.dr (id := 4) (by rfl) [0, 1, 2, 3, 4, 5] (by kernel_rfl) (by kernel_rfl) ?_ | ((first | refine AL.ld rfl ?_ | refine AL.al ?_ | refine AL.lt rfl ?_ | refine AL.st rfl rfl ?_ | refine AL.ap rfl rfl ?_ | refine AL.ca rfl ?_ | refine AL.pu rfl ?_ | refine AH.ld rfl ?_ | refine AH.al ?_ | refine AH.lt rfl ?_ | refine AH.stN rfl rfl (by kernel_rfl) ?_ | refine AH.apN rfl rfl (by kernel_rfl) ?_ | refine AH.ca (dst := some 10) rfl ?_ | refine AH.pu rfl rfl ?_); simp (disch := omega) only [push_cast, ↓reduceIte, reduceCtorEq, Nat.reduceAdd, Nat.reduceMul, Nat.reduceLeDiff, Nat.reduceLT, Nat.reduceSub, Int.reduceNe, Int.reduceEq, Int.reduceLE, Int.reduceLT, Int.reduceToNat])))
    clear hJ
    refine ⟨rfl, ?_⟩
    rintro B M2 ⟨hF, h1, h2, out, h3, hN, hbig⟩ hrec
    have hvs := (hvk M2 hF).sub (l := 4 * k) (r := 4 * k + min 4 (xs.length - 4 * k)) (c := min 4 (xs.length - 4 * k)) (by omega) (by omega) (by rw [Nat.add_sub_cancel_left]; unfold capLb; rw [if_pos (by have : capLow = 4611686018427387904 := rfl; omega)]; exact Nat.le_refl _) (fun h => .inl (by omega))
    rw [show 4 * k + min 4 (xs.length - 4 * k) - 4 * k = 4 by omega, ints_drop, ints_take, Nat.mul_one, Nat.mul_one] at hvs
    have hw := hvs.1
    generalize subsl v 1 (4 * k) (4 * k + min 4 (xs.length - 4 * k)) (min 4 (xs.length - 4 * k)) = w at *
    (repeat (first | refine st ?_ | refine ADL.hd rfl ?_ | (refine And.intro (by omega) ?_) | refine AW.dr (id := 4) (by rfl) [0, 1, 2, 3, 4, 5] (by kernel_rfl) (by kernel_rfl) ?_ | ((first | refine AL.ld rfl ?_ | refine AL.al ?_ | refine AL.lt rfl ?_ | refine AL.st rfl rfl ?_ | refine AL.ap rfl rfl ?_ | refine AL.ca rfl ?_ | refine AL.pu rfl ?_ | refine AH.ld rfl ?_ | refine AH.al ?_ | refine AH.lt rfl ?_ | refine AH.stN rfl rfl (by kernel_rfl) ?_ | refine AH.apN rfl rfl (by kernel_rfl) ?_ | refine AH.ca (dst := some 10) rfl ?_ | refine AH.pu rfl rfl ?_); simp (disch := omega) only [push_cast, ↓reduceIte, reduceCtorEq, Nat.reduceAdd, Nat.reduceMul, Nat.reduceLeDiff, Nat.reduceLT, Nat.reduceSub, Int.reduceNe, Int.reduceEq, Int.reduceLE, Int.reduceLT, Int.reduceToNat, h3.ld])))
    refine (word_spec w ((xs.drop (4 * k)).take 4) M2 hw (by simp; omega) (fun x hx => hb x (List.mem_of_mem_drop (List.mem_of_mem_take hx)))).mono ?_
    rintro r M3 ⟨z, rfl, hz, rfl⟩
    rw [getD_drop_take xs (by omega), getD_drop_take xs (by omega), getD_drop_take xs (by omega), getD_drop_take xs (by omega)] at hz
    have hz' : z = wordAt xs (4 * k) := hz
    (repeat (first | refine st ?_ | refine ADL.hd rfl ?_ | (refine And.intro (by omega) ?_) | refine AW.dr (id := 4) (by rfl) [0, 1, 2, 3, 4, 5] (by kernel_rfl) (by kernel_rfl) ?_ | ((first | refine AL.ld rfl ?_ | refine AL.al ?_ | refine AL.lt rfl ?_ | refine AL.st rfl rfl ?_ | refine AL.ap rfl rfl ?_ | refine AL.ca rfl ?_ | refine AL.pu rfl ?_ | refine AH.ld rfl ?_ | refine AH.al ?_ | refine AH.lt rfl ?_ | refine AH.stN rfl rfl (by kernel_rfl) ?_ | refine AH.apN rfl rfl (by kernel_rfl) ?_ | refine AH.ca (dst := some 10) rfl ?_ | refine AH.pu rfl rfl ?_); simp (disch := omega) only [push_cast, ↓reduceIte, reduceCtorEq, Nat.reduceAdd, Nat.reduceMul, Nat.reduceLeDiff, Nat.reduceLT, Nat.reduceSub, Int.reduceNe, Int.reduceEq, Int.reduceLE, Int.reduceLT, Int.reduceToNat])))
    refine ⟨Fr.refl _, ?_⟩
    (repeat (first | refine st ?_ | refine ADL.hd rfl ?_ | (refine And.intro (by omega) ?_) | refine AW.dr (id := 4) (by rfl) [0, 1, 2, 3, 4, 5] (by kernel_rfl) (by kernel_rfl) ?_ | ((first | refine AL.ld rfl ?_ | refine AL.al ?_ | refine AL.lt rfl ?_ | refine AL.st rfl rfl ?_ | refine AL.ap rfl rfl ?_ | refine AL.ca rfl ?_ | refine AL.pu rfl ?_ | refine AH.ld rfl ?_ | refine AH.al ?_ | refine AH.lt rfl ?_ | refine AH.stN rfl rfl (by kernel_rfl) ?_ | refine AH.apN rfl rfl (by kernel_rfl) ?_ | refine AH.ca (dst := some 10) rfl ?_ | refine AH.pu rfl rfl ?_); simp (disch := omega) only [push_cast, ↓reduceIte, reduceCtorEq, Nat.reduceAdd, Nat.reduceMul, Nat.reduceLeDiff, Nat.reduceLT, Nat.reduceSub, Int.reduceNe, Int.reduceEq, Int.reduceLE, Int.reduceLT, Int.reduceToNat])))
    have hrow := New.row M3 (s := 1) (n := 1) (cs := ints .u32 [z]) (by omega) rfl rfl (by decide)
    have hN1 := hN.keep (Fr.push M3 (.row true 1 [.int .u32 z])) (by simp)
    have hwl := words_length xs k
    refine appK.ints (P := Try.prog) (e := 25) (bt := 4) (z := .int .u32 0) (by kernel_rfl) (by kernel_rfl) (by kernel_rfl) (by kernel_rfl) (by decide) hN1.1 hrow.sl (by simp; omega) ?_
    intro v' M4 hN4 hF4
    rw [hz', ← words_succ] at hN4
    have hF3 : Fr M M3 [] := hF
    have f4 : Fr M3 M4 (blkOf out) := ((Fr.push M3 (.row true 1 [.int .u32 z])).trans hF4).cut (by intro x hx _; simpa using hx)
    have hlt : M.length + 3 < M3.length := by have := (List.getElem?_eq_some_iff.1 hrec).1; rw [hlen] at this; exact this
    have nb : ∀ x, x ≤ M.length + 3 → x ∉ blkOf out := fun x hx h => by have := hbig x h; omega
    have h3' := h3.keep f4 (nb _ (by omega))
    have hs4 := hN4.sl.isSl
    have hc4 := isSl_cl hs4
    have ho4 := isSl_one hs4
    simp only [Value.oneCell'] at ho4
    have sp1 : ∀ a b : Value, spl [a] 0 [b] = [b] := fun _ _ => rfl
    (repeat (first | refine st ?_ | refine ADL.hd rfl ?_ | (refine And.intro (by omega) ?_) | refine AW.dr (id := 4) (by rfl) [0, 1, 2, 3, 4, 5] (by kernel_rfl) (by kernel_rfl) ?_ | ((first | refine AL.ld rfl ?_ | refine AL.al ?_ | refine AL.lt rfl ?_ | refine AL.st rfl rfl ?_ | refine AL.ap rfl rfl ?_ | refine AL.ca rfl ?_ | refine AL.pu rfl ?_ | refine AH.ld rfl ?_ | refine AH.al ?_ | refine AH.lt rfl ?_ | refine AH.stN rfl rfl (by kernel_rfl) ?_ | refine AH.apN rfl rfl (by kernel_rfl) ?_ | refine AH.ca (dst := some 10) rfl ?_ | refine AH.pu rfl rfl ?_); simp (disch := omega) only [push_cast, ↓reduceIte, reduceCtorEq, Nat.reduceAdd, Nat.reduceMul, Nat.reduceLeDiff, Nat.reduceLT, Nat.reduceSub, Int.reduceNe, Int.reduceEq, Int.reduceLE, Int.reduceLT, Int.reduceToNat, hc4, ho4, sp1, h3'.get, Option.some.injEq, exists_eq_left', Blk.put, Blk.ours, Blk.cells])))
    have g1 := Fr.set M4 M.length (.box [v'])
    have hbk : ∀ b ∈ blkOf v', M.length + 3 < b := fun b hb => by have := hN4.blk b hb; simp at this; omega
    have hrec4 : M4[M.length + 3]? = some B := by rw [f4.2 _ hlt (nb _ (by omega)), ← hlen]; exact hrec
    rw [hlen]
    refine ⟨rfl, by rw [List.getElem?_set_ne (by omega)]; exact hrec4, ((hF3.trans f4).trans g1).cut (fun x hx hlt => ?_), (h1.keep f4 (nb _ (by omega))).keep g1 (by simp), (h2.keep f4 (nb _ (by omega))).keep g1 (by simp), v', h3'.set _, ?_, hbk⟩
    · simp only [List.nil_append, List.mem_append, List.mem_singleton] at hx
      rcases hx with hx | hx
      · have := hbig x hx; omega
      · omega
    · refine ⟨hN4.1.keep g1 (fun b hb hx => ?_), fun a n' c' hv' hc' => ?_⟩
      · have := hbk b hb; simp at hx; omega
      · have := hbk a.block (by rw [hv']; show a.block ∈ (if c' = 0 then [] else [a.block]); rw [if_neg hc']; simp)
        omega
  · rintro M1 ⟨hF, h1, h2, out, h3, hN, hbig⟩
    (repeat (first | refine st ?_ | refine ADL.hd rfl ?_ | (refine And.intro (by omega) ?_) | refine AW.dr (id := 4) (by rfl) [0, 1, 2, 3, 4, 5] (by kernel_rfl) (by kernel_rfl) ?_ | ((first | refine AL.ld rfl ?_ | refine AL.al ?_ | refine AL.lt rfl ?_ | refine AL.st rfl rfl ?_ | refine AL.ap rfl rfl ?_ | refine AL.ca rfl ?_ | refine AL.pu rfl ?_ | refine AH.ld rfl ?_ | refine AH.al ?_ | refine AH.lt rfl ?_ | refine AH.stN rfl rfl (by kernel_rfl) ?_ | refine AH.apN rfl rfl (by kernel_rfl) ?_ | refine AH.ca (dst := some 10) rfl ?_ | refine AH.pu rfl rfl ?_); simp (disch := omega) only [push_cast, ↓reduceIte, reduceCtorEq, Nat.reduceAdd, Nat.reduceMul, Nat.reduceLeDiff, Nat.reduceLT, Nat.reduceSub, Int.reduceNe, Int.reduceEq, Int.reduceLE, Int.reduceLT, Int.reduceToNat, h3.ld])))
    ((first | refine retA.ret (by rfl) ?_ | refine retA.normal (by rfl) ?_); simp (disch := omega) only [push_cast, ↓reduceIte, reduceCtorEq, Nat.reduceAdd, Nat.reduceMul, Nat.reduceLeDiff, Nat.reduceLT, Nat.reduceSub, Int.reduceNe, Int.reduceEq, Int.reduceLE, Int.reduceLT, Int.reduceToNat])
    exact ⟨hN, hF⟩

end Go.Proofs.Ytbjipdmbdabniaa.Ax
