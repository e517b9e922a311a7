/- Contracts of functions over the abstract machine. No conditions: lemmas alone. -/
import Derived.Test.YtbjipdmbdabniaaAttrBackLibD
namespace Go.Proofs.Ytbjipdmbdabniaa.Ax
open Go Go.RowKit
set_option linter.unusedVariables false
set_option linter.unusedSimpArgs false
set_option maxRecDepth 100000
set_option maxHeartbeats 20000000
attribute [local irreducible] thenA blockA scopeA retA AL AW AD ADL AH clrK CallA apure aload bload appK ptrK fnK ares szOk planOk okOps
theorem or32 (i : Nat) (x y : Int) (hx : x % 2 ^ i = 0) (h0 : 0 ≤ x) (h1 : 0 ≤ y) (h2 : y < 2 ^ i) (h3 : x + y < 4294967296) : bits .u32 (BitVec.ofInt IntKind.u32.bits x ||| BitVec.ofInt IntKind.u32.bits y) = .int .u32 (x + y) := by
  obtain ⟨a, rfl⟩ : ∃ a : Nat, x = a := ⟨x.toNat, by omega⟩
  obtain ⟨b, rfl⟩ : ∃ b : Nat, y = b := ⟨y.toNat, by omega⟩
  have hb : b < 2 ^ i := by exact_mod_cast h2
  have ha : a % 2 ^ i = 0 := by exact_mod_cast hx
  have e : a = 2 ^ i * (a / 2 ^ i) := by have := Nat.div_add_mod a (2 ^ i); omega
  have ho : a ||| b = a + b := by rw [e]; exact (Nat.two_pow_add_eq_or_of_lt hb _).symm
  have ea : (BitVec.ofInt IntKind.u32.bits (a : Int)).toNat = a := by
    rw [BitVec.ofInt_natCast, BitVec.toNat_ofNat]
    exact Nat.mod_eq_of_lt (by show a < 2 ^ 32; omega)
  have eb : (BitVec.ofInt IntKind.u32.bits (b : Int)).toNat = b := by
    rw [BitVec.ofInt_natCast, BitVec.toNat_ofNat]
    exact Nat.mod_eq_of_lt (by show b < 2 ^ 32; omega)
  unfold bits
  rw [BitVec.toNat_or, ea, eb, ho, w_u32 (by omega) (by omega)]
  rfl
theorem word_spec (v : Value) (xs : List Int) (M : Mem) (hv : Sl M v 1 (ints .u8 xs)) (hl : 4 ≤ xs.length) (hb : ∀ x ∈ xs, 0 ≤ x ∧ x ≤ 255) : CallA Try.prog 46 [v] M fun r M' => ∃ k, r = .int .u32 k ∧ k = xs.getD 0 0 * 16777216 + xs.getD 1 0 * 65536 + xs.getD 2 0 * 256 + xs.getD 3 0 ∧ M' = M := by
  have hs := hv.isSl
  have hn := hv.lnI
  have hld := fun i h1 => hv.ldN (P := Try.prog) (ty := 5) (i := i) (by kernel_rfl) h1
  have hl0 := fun h1 => hv.ld0 (P := Try.prog) (ty := 5) (by kernel_rfl) h1
  have b0 := hb _ (getD_mem (xs := xs) (i := 0) (by omega))
  have b1 := hb _ (getD_mem (xs := xs) (i := 1) (by omega))
  have b2 := hb _ (getD_mem (xs := xs) (i := 2) (by omega))
  have b3 := hb _ (getD_mem (xs := xs) (i := 3) (by omega))
  have s24 : (2 : Int) ^ min 24 IntKind.u32.bits = 16777216 := by decide
  have s16 : (2 : Int) ^ min 16 IntKind.u32.bits = 65536 := by decide
  have s8 : (2 : Int) ^ min 8 IntKind.u32.bits = 256 := by decide
  have o24 : ∀ x y : Int, x % 16777216 = 0 → 0 ≤ x → 0 ≤ y → y < 16777216 → x + y < 4294967296 → bits .u32 (BitVec.ofInt IntKind.u32.bits x ||| BitVec.ofInt IntKind.u32.bits y) = .int .u32 (x + y) := fun x y h1 h2 h3 h4 h5 => or32 24 x y (by simpa using h1) h2 h3 (by simpa using h4) h5
  have o16 : ∀ x y : Int, x % 65536 = 0 → 0 ≤ x → 0 ≤ y → y < 65536 → x + y < 4294967296 → bits .u32 (BitVec.ofInt IntKind.u32.bits x ||| BitVec.ofInt IntKind.u32.bits y) = .int .u32 (x + y) := fun x y h1 h2 h3 h4 h5 => or32 16 x y (by simpa using h1) h2 h3 (by simpa using h4) h5
  have o8 : ∀ x y : Int, x % 256 = 0 → 0 ≤ x → 0 ≤ y → y < 256 → x + y < 4294967296 → bits .u32 (BitVec.ofInt IntKind.u32.bits x ||| BitVec.ofInt IntKind.u32.bits y) = .int .u32 (x + y) := fun x y h1 h2 h3 h4 h5 => or32 8 x y (by simpa using h1) h2 h3 (by simpa using h4) h5
  (refine CallA.of_body Try.func46 rfl (by rfl) ?_; simp only [Try.ntmps46, List.length_cons, List.length_nil, List.replicate, List.cons_append, List.nil_append, Nat.reduceSub, Nat.reduceAdd])
  (repeat (first | refine st ?_ | refine AW.label ?_ | refine blockA.here ?_ | refine blockA.exit rfl ?_ | (refine And.intro (by omega) ?_) | (refine AW.condT rfl rfl (by first | rfl | assumption) ?_) | (refine AW.condF rfl rfl (by first | rfl | assumption) ?_) | (refine AL.guT rfl (by first | rfl | assumption) ?_) | ((first | refine AL.ld rfl ?_ | refine AL.bx rfl ?_ | refine AL.al ?_ | refine AL.lt rfl ?_ | refine AL.st rfl rfl ?_ | refine AL.ap rfl rfl ?_ | refine AL.ca rfl ?_ | refine AL.slW (by kernel_rfl) rfl ?_ | refine AL.pu rfl ?_ | refine AL.guF rfl (by first | rfl | assumption) ?_); simp (disch := omega) only [Option.some.injEq, TypeDesc.slice.injEq, exists_eq_left', push_cast, ↓reduceIte, reduceCtorEq, Nat.reduceAdd, Nat.reduceMul, Nat.reduceLeDiff, Nat.reduceLT, Nat.reduceSub, Int.reduceNe, Int.reduceEq, Int.reduceLE, Int.reduceLT, Int.reduceToNat])))
  refine AW.dr (by rfl) [0, 1, 2, 3, 4, 5, 6, 7, 8, 9, 10, 11, 12, 13, 14, 15, 16, 17, 18, 19, 20, 21, 22] (by kernel_rfl) (by kernel_rfl) ?_
  (repeat (first | refine st ?_ | refine ADL.hd rfl ?_ | (refine And.intro (by omega) ?_) | ((first | refine AH.ld rfl ?_ | refine AH.bx rfl ?_ | refine AH.al ?_ | refine AH.lt rfl ?_ | refine AH.stN rfl rfl (by kernel_rfl) ?_ | refine AH.apN rfl rfl (by kernel_rfl) ?_ | refine AH.caN rfl (by kernel_rfl) ?_ | refine AH.ca rfl ?_ | refine AH.slW (by kernel_rfl) rfl ?_ | refine AH.pu rfl rfl ?_ | refine AH.guF rfl (by first | rfl | assumption) ?_ | refine AH.guLd rfl (by first | rfl | assumption) rfl ?_ | refine AH.guCa rfl (by first | rfl | assumption) rfl ?_ | refine AH.guPu rfl rfl (by first | rfl | assumption) rfl ?_); simp (disch := omega) only [Option.some.injEq, TypeDesc.slice.injEq, exists_eq_left', push_cast, ↓reduceIte, reduceCtorEq, Nat.reduceAdd, Nat.reduceMul, Nat.reduceLeDiff, Nat.reduceLT, Nat.reduceSub, Int.reduceNe, Int.reduceEq, Int.reduceLE, Int.reduceLT, Int.reduceToNat, hs, hn, hld, hl0, w_u32, s24, s16, s8, o24, o16, o8])))
  (repeat (first | refine st ?_ | refine AW.label ?_ | refine blockA.here ?_ | refine blockA.exit rfl ?_ | (refine And.intro (by omega) ?_) | (refine AW.condT rfl rfl (by first | rfl | assumption) ?_) | (refine AW.condF rfl rfl (by first | rfl | assumption) ?_) | (refine AL.guT rfl (by first | rfl | assumption) ?_) | ((first | refine AL.ld rfl ?_ | refine AL.bx rfl ?_ | refine AL.al ?_ | refine AL.lt rfl ?_ | refine AL.st rfl rfl ?_ | refine AL.ap rfl rfl ?_ | refine AL.ca rfl ?_ | refine AL.slW (by kernel_rfl) rfl ?_ | refine AL.pu rfl ?_ | refine AL.guF rfl (by first | rfl | assumption) ?_); simp (disch := omega) only [Option.some.injEq, TypeDesc.slice.injEq, exists_eq_left', push_cast, ↓reduceIte, reduceCtorEq, Nat.reduceAdd, Nat.reduceMul, Nat.reduceLeDiff, Nat.reduceLT, Nat.reduceSub, Int.reduceNe, Int.reduceEq, Int.reduceLE, Int.reduceLT, Int.reduceToNat])))
  ((first | refine retA.ret (by rfl) ?_ | refine retA.normal (by rfl) ?_); simp (disch := omega) only [push_cast, ↓reduceIte, reduceCtorEq, Nat.reduceAdd, Nat.reduceMul, Nat.reduceLeDiff, Nat.reduceLT, Nat.reduceSub, Int.reduceNe, Int.reduceEq, Int.reduceLE, Int.reduceLT, Int.reduceToNat])
  simp
theorem ld_last (ty : TypeId) (M : Mem) (B : Blk) (j : Nat) : aload Try.prog ty (M ++ [B]) M.length j = bload Try.prog ty B.cells j := (At.push M B).ld
theorem chunk_spec (v : Value) (M : Mem) (hs : isSl v = true) : CallA Try.prog 45 [v, .int .i64 4] M fun r M' => r = .func (.func 51) #[] #[.pointer (some ⟨M.length, 0, none⟩), .pointer (some ⟨M.length + 1, 0, none⟩)] ∧ M' = M ++ [.box [v], .box [.int .i64 4]] := by
  have hc := isSl_cl hs
  have hb : bload Try.prog 3 [.int .i64 4] 0 = some (.int .i64 4) := by
    have hu : Try.prog.underlying 3 = some (.int .i64) := by kernel_rfl
    unfold bload
    rw [hu]
    rfl
  (refine CallA.of_body Try.func45 rfl (by rfl) ?_; simp only [Try.ntmps45, List.length_cons, List.length_nil, List.replicate, List.cons_append, List.nil_append, Nat.reduceSub, Nat.reduceAdd])
  (repeat (first | refine st ?_ | refine AW.label ?_ | refine blockA.here ?_ | refine blockA.exit rfl ?_ | (refine And.intro (by omega) ?_) | (refine AW.condT rfl rfl (by first | rfl | assumption) ?_) | (refine AW.condF rfl rfl (by first | rfl | assumption) ?_) | (refine AL.guT rfl (by first | rfl | assumption) ?_) | ((first | refine AL.ld rfl ?_ | refine AL.bx rfl ?_ | refine AL.al ?_ | refine AL.lt rfl ?_ | refine AL.st rfl rfl ?_ | refine AL.ap rfl rfl ?_ | refine AL.ca rfl ?_ | refine AL.slW (by kernel_rfl) rfl ?_ | refine AL.pu rfl ?_ | refine AL.guF rfl (by first | rfl | assumption) ?_); simp (disch := omega) only [Option.some.injEq, TypeDesc.slice.injEq, exists_eq_left', push_cast, ↓reduceIte, reduceCtorEq, Nat.reduceAdd, Nat.reduceMul, Nat.reduceLeDiff, Nat.reduceLT, Nat.reduceSub, Int.reduceNe, Int.reduceEq, Int.reduceLE, Int.reduceLT, Int.reduceToNat, hc, ld_last, hb, Blk.cells])))
  ((first | refine retA.ret (by rfl) ?_ | refine retA.normal (by rfl) ?_); simp (disch := omega) only [push_cast, ↓reduceIte, reduceCtorEq, Nat.reduceAdd, Nat.reduceMul, Nat.reduceLeDiff, Nat.reduceLT, Nat.reduceSub, Int.reduceNe, Int.reduceEq, Int.reduceLE, Int.reduceLT, Int.reduceToNat])
  exact ⟨by simp, by simp⟩
theorem slSubN {M : Mem} {v : Value} {s : Nat} {cs : List Value} (h : Sl M v s cs) (h0 : 0 < sln v) (l r c : Nat) : isSl (subsl v s l r c) = true ∧ sln (subsl v s l r c) = r - l := by
  rcases h.base with rfl | ⟨b, off, n, c', rfl, _, _⟩
  · exact absurd h0 (Nat.lt_irrefl _)
  · exact ⟨rfl, rfl⟩
theorem chunk1_spec {l b1 b2 : Nat} {v : Value} {xs : List Int} {J : Nat → Mem → Prop} (hs : isSl v = true) (hn : sln v = xs.length) (hxl : xs.length ≤ 100000)
    (hJ : ∀ k M, J k M → At M b1 (.box [v]) ∧ At M b2 (.box [.int .i64 4]) ∧ Sl M v 1 (ints .u8 xs))
    (hy : ∀ k M, 4 * k < xs.length → J k M → YieldA Try.prog l [subsl v 1 (4 * k) (4 * k + min 4 (xs.length - 4 * k)) (min 4 (xs.length - 4 * k))] M fun b M' => b = true ∧ J (k + 1) M') {M : Mem} (h0 : J 0 M) :
    CallA Try.prog 51 [.func (.yield l) #[] #[], .pointer (some ⟨b1, 0, none⟩), .pointer (some ⟨b2, 0, none⟩)] M fun _ M' => J ((xs.length + 3) / 4) M' := by
  have hc := isSl_cl hs
  have hv : bload Try.prog 22 [v] 0 = some v := by
    have hu : Try.prog.underlying 22 = some (.slice 5) := by kernel_rfl
    unfold bload
    rw [hu]
    rfl
  have hb : bload Try.prog 3 [.int .i64 4] 0 = some (.int .i64 4) := by
    have hu : Try.prog.underlying 3 = some (.int .i64) := by kernel_rfl
    unfold bload
    rw [hu]
    rfl
  (refine CallA.of_body Try.func51 rfl (by rfl) ?_; simp only [Try.ntmps51, List.length_cons, List.length_nil, List.replicate, List.cons_append, List.nil_append, Nat.reduceSub, Nat.reduceAdd])
  (repeat (first | refine st ?_ | refine AW.label ?_ | refine blockA.here ?_ | refine blockA.exit rfl ?_ | (refine And.intro (by omega) ?_) | (refine AW.condT rfl rfl (by first | rfl | assumption) ?_) | (refine AW.condF rfl rfl (by first | rfl | assumption) ?_) | (refine AL.guT rfl (by first | rfl | assumption) ?_) | ((first | refine AL.ld rfl ?_ | refine AL.bx rfl ?_ | refine AL.al ?_ | refine AL.lt rfl ?_ | refine AL.st rfl rfl ?_ | refine AL.ap rfl rfl ?_ | refine AL.ca rfl ?_ | refine AL.slW (by kernel_rfl) rfl ?_ | refine AL.pu rfl ?_ | refine AL.guF rfl (by first | rfl | assumption) ?_); simp (disch := omega) only [Option.some.injEq, TypeDesc.slice.injEq, exists_eq_left', push_cast, ↓reduceIte, reduceCtorEq, Nat.reduceAdd, Nat.reduceMul, Nat.reduceLeDiff, Nat.reduceLT, Nat.reduceSub, Int.reduceNe, Int.reduceEq, Int.reduceLE, Int.reduceLT, Int.reduceToNat])))
  refine AW.loopF [4, 5, 6, 7, 8, 9, 10, 11, 12, 13, 14, 15, 16, 17, 18, 19, 20, 21, 22, 23, 24, 25, 26, 27, 28, 29, 30] (fun m f M' => ∃ k : Nat, f 4 = .int .i64 (4 * (k : Int)) ∧ 4 * k < xs.length + 4 ∧ 4 * k + m = xs.length + 4 ∧ J k M') (xs.length + 4) ?_ ?_
  · exact ⟨0, rfl, by omega, by omega, h0⟩
  rintro m f M1 ⟨k, h4, hk, hm, hj⟩
  obtain ⟨a1, a2, hsl⟩ := hJ k M1 hj
  have l1 := (a1.ld (P := Try.prog) (t := 22) (j := 0)).trans hv
  have l2 := (a2.ld (P := Try.prog) (t := 3) (j := 0)).trans hb
  simp (disch := omega) only [push_cast, ↓reduceIte, reduceCtorEq, Nat.reduceAdd, Nat.reduceMul, Nat.reduceLeDiff, Nat.reduceLT, Nat.reduceSub, Int.reduceNe, Int.reduceEq, Int.reduceLE, Int.reduceLT, Int.reduceToNat, h4]
  (repeat (first | refine st ?_ | refine AW.label ?_ | refine blockA.here ?_ | refine blockA.exit rfl ?_ | (refine And.intro (by omega) ?_) | (refine AW.condT rfl rfl (by first | rfl | assumption) ?_) | (refine AW.condF rfl rfl (by first | rfl | assumption) ?_) | (refine AL.guT rfl (by first | rfl | assumption) ?_) | ((first | refine AL.ld rfl ?_ | refine AL.bx rfl ?_ | refine AL.al ?_ | refine AL.lt rfl ?_ | refine AL.st rfl rfl ?_ | refine AL.ap rfl rfl ?_ | refine AL.ca rfl ?_ | refine AL.slW (by kernel_rfl) rfl ?_ | refine AL.pu rfl ?_ | refine AL.guF rfl (by first | rfl | assumption) ?_); simp (disch := omega) only [Option.some.injEq, TypeDesc.slice.injEq, exists_eq_left', push_cast, ↓reduceIte, reduceCtorEq, Nat.reduceAdd, Nat.reduceMul, Nat.reduceLeDiff, Nat.reduceLT, Nat.reduceSub, Int.reduceNe, Int.reduceEq, Int.reduceLE, Int.reduceLT, Int.reduceToNat, l1, hn])))
  ((first | refine AL.gu rfl (fun hlt => ?_) (fun hlt => ?_) | refine AW.condS rfl rfl (fun hlt => ?_) (fun hlt => ?_)) <;> (try (have hlt' := hlt; simp only [Bool.not_eq_true', Bool.not_eq_false', Bool.not_true, Bool.not_false, decide_eq_true_eq, decide_eq_false_iff_not, Classical.not_not, Int.not_lt, Int.not_le, gt_iff_lt, ge_iff_le, beq_iff_eq] at hlt')))
  · (repeat (first | refine st ?_ | refine AW.label ?_ | refine blockA.here ?_ | refine blockA.exit rfl ?_ | (refine And.intro (by omega) ?_) | (refine AW.condT rfl rfl (by first | rfl | assumption) ?_) | (refine AW.condF rfl rfl (by first | rfl | assumption) ?_) | (refine AL.guT rfl (by first | rfl | assumption) ?_) | ((first | refine AL.ld rfl ?_ | refine AL.bx rfl ?_ | refine AL.al ?_ | refine AL.lt rfl ?_ | refine AL.st rfl rfl ?_ | refine AL.ap rfl rfl ?_ | refine AL.ca rfl ?_ | refine AL.slW (by kernel_rfl) rfl ?_ | refine AL.pu rfl ?_ | refine AL.guF rfl (by first | rfl | assumption) ?_); simp (disch := omega) only [Option.some.injEq, TypeDesc.slice.injEq, exists_eq_left', push_cast, ↓reduceIte, reduceCtorEq, Nat.reduceAdd, Nat.reduceMul, Nat.reduceLeDiff, Nat.reduceLT, Nat.reduceSub, Int.reduceNe, Int.reduceEq, Int.reduceLE, Int.reduceLT, Int.reduceToNat])))
    have ht : (4 * (k : Int)).toNat = 4 * k := by omega
    have hcap : sln v ≤ capLb (scp v) := hsl.caps
    have hsz : szOk M1 v 1 := hsl.sz
    have hbl : ∀ b ∈ blkOf v, b < M1.length := hsl.blks
    have ha : aslice v 1 (some (.int .i64 (4 * (k : Int)))) none none = some (subsl v 1 (4 * k) xs.length (capSub (scp v) (4 * k))) := by
      unfold aslice natOf
      rw [if_pos hs]
      rw [hn] at hcap
      have h0 : (0 : Int) ≤ 4 * (k : Int) := by omega
      simp only [ht, hn, natOf, Option.bind_some, h0, if_true, true_or, and_true]
      rw [if_pos (by omega)]
    have hsub := slSubN hsl (by omega) (4 * k) xs.length (capSub (scp v) (4 * k))
    have hs2 := hsub.1
    have hn2 := hsub.2
    have hmin : ((xs.length - 4 * k : Nat) : Int) = (xs.length : Int) - 4 * k := by omega
    refine AW.dr (by rfl) [0, 1, 2, 3, 4, 5, 6] (by kernel_rfl) (by kernel_rfl) ?_
    (repeat (first | refine st ?_ | refine ADL.hd rfl ?_ | (refine And.intro (by omega) ?_) | ((first | refine AH.ld rfl ?_ | refine AH.bx rfl ?_ | refine AH.al ?_ | refine AH.lt rfl ?_ | refine AH.stN rfl rfl (by kernel_rfl) ?_ | refine AH.apN rfl rfl (by kernel_rfl) ?_ | refine AH.caN rfl (by kernel_rfl) ?_ | refine AH.ca rfl ?_ | refine AH.slW (by kernel_rfl) rfl ?_ | refine AH.pu rfl rfl ?_ | refine AH.guF rfl (by first | rfl | assumption) ?_ | refine AH.guLd rfl (by first | rfl | assumption) rfl ?_ | refine AH.guCa rfl (by first | rfl | assumption) rfl ?_ | refine AH.guPu rfl rfl (by first | rfl | assumption) rfl ?_); simp (disch := omega) only [Option.some.injEq, TypeDesc.slice.injEq, exists_eq_left', push_cast, ↓reduceIte, reduceCtorEq, Nat.reduceAdd, Nat.reduceMul, Nat.reduceLeDiff, Nat.reduceLT, Nat.reduceSub, Int.reduceNe, Int.reduceEq, Int.reduceLE, Int.reduceLT, Int.reduceToNat, l1, l2, hs, hn, hc, ha, hs2, hn2, Option.map_none, Option.map_some, Option.some.injEq, exists_eq_left'])))
    obtain ⟨d, hd, hd1⟩ : ∃ d : Nat, (if (xs.length : Int) - (0 + 1 + 1 + 1 + 1) * (k : Int) < 4 then (xs.length : Int) - (0 + 1 + 1 + 1 + 1) * (k : Int) else 4) = (d : Int) ∧ d = min 4 (xs.length - 4 * k) := by
      refine ⟨min 4 (xs.length - 4 * k), ?_, rfl⟩
      split <;> omega
    rw [hd]
    have ht2 : (4 * (k : Int) + (d : Int)).toNat = 4 * k + d := by omega
    have ha2 : aslice v 1 (some (.int .i64 (4 * (k : Int)))) (some (.int .i64 (4 * (k : Int) + (d : Int)))) (some (.int .i64 (4 * (k : Int) + (d : Int)))) = some (subsl v 1 (4 * k) (4 * k + d) d) := by
      have h0 : (0 : Int) ≤ 4 * (k : Int) := by omega
      have h1 : (0 : Int) ≤ 4 * (k : Int) + d := by omega
      rw [hn] at hcap
      unfold aslice
      rw [if_pos hs]
      simp only [ht, ht2, natOf, Option.bind_some, h0, h1, if_true, reduceCtorEq, if_false]
      have hcl : capLow = 4611686018427387904 := rfl
      rw [if_pos (by omega)]
      congr 2
      omega
    (repeat (first | refine st ?_ | refine AW.label ?_ | refine blockA.here ?_ | refine blockA.exit rfl ?_ | (refine And.intro (by omega) ?_) | (refine AW.condT rfl rfl (by first | rfl | assumption) ?_) | (refine AW.condF rfl rfl (by first | rfl | assumption) ?_) | (refine AL.guT rfl (by first | rfl | assumption) ?_) | ((first | refine AL.ld rfl ?_ | refine AL.bx rfl ?_ | refine AL.al ?_ | refine AL.lt rfl ?_ | refine AL.st rfl rfl ?_ | refine AL.ap rfl rfl ?_ | refine AL.slW (by kernel_rfl) rfl ?_ | refine AL.guF rfl (by first | rfl | assumption) ?_); simp (disch := omega) only [Option.some.injEq, TypeDesc.slice.injEq, exists_eq_left', push_cast, ↓reduceIte, reduceCtorEq, Nat.reduceAdd, Nat.reduceMul, Nat.reduceLeDiff, Nat.reduceLT, Nat.reduceSub, Int.reduceNe, Int.reduceEq, Int.reduceLE, Int.reduceLT, Int.reduceToNat, l1, l2, hs, hn, hc, ht, ha2, w_i64, Option.map_some, Option.some.injEq, exists_eq_left']) | (refine AL.pu rfl ?_; simp (disch := omega) only [push_cast, ↓reduceIte, reduceCtorEq, Nat.reduceAdd, Nat.reduceMul, Nat.reduceLeDiff, Nat.reduceLT, Nat.reduceSub, Int.reduceNe, Int.reduceEq, Int.reduceLE, Int.reduceLT, Int.reduceToNat, l1, l2, hs, hn, hc, ht, ha2, w_i64, Option.map_some, Option.some.injEq, exists_eq_left']; refine id (α := AL _ _ _ _ _ _) ?_)))
    refine AL.yield rfl rfl rfl rfl (by have := hy k M1 (by omega) hj; rw [← hd1] at this; exact this) ?_
    rintro bb M2 ⟨rfl, hj2⟩
    obtain ⟨_, a3, _⟩ := hJ (k + 1) M2 hj2
    have l3 := (a3.ld (P := Try.prog) (t := 3) (j := 0)).trans hb
    (repeat (first | refine st ?_ | refine AW.label ?_ | refine blockA.here ?_ | refine blockA.exit rfl ?_ | (refine And.intro (by omega) ?_) | (refine AW.condT rfl rfl (by first | rfl | assumption) ?_) | (refine AW.condF rfl rfl (by first | rfl | assumption) ?_) | (refine AL.guT rfl (by first | rfl | assumption) ?_) | ((first | refine AL.ld rfl ?_ | refine AL.bx rfl ?_ | refine AL.al ?_ | refine AL.lt rfl ?_ | refine AL.st rfl rfl ?_ | refine AL.ap rfl rfl ?_ | refine AL.ca rfl ?_ | refine AL.slW (by kernel_rfl) rfl ?_ | refine AL.pu rfl ?_ | refine AL.guF rfl (by first | rfl | assumption) ?_); simp (disch := omega) only [Option.some.injEq, TypeDesc.slice.injEq, exists_eq_left', push_cast, ↓reduceIte, reduceCtorEq, Nat.reduceAdd, Nat.reduceMul, Nat.reduceLeDiff, Nat.reduceLT, Nat.reduceSub, Int.reduceNe, Int.reduceEq, Int.reduceLE, Int.reduceLT, Int.reduceToNat, l3, w_i64])))
    have e4 : Value.int .i64 (4 * (k : Int) + 4) = .int .i64 (4 * ((k + 1 : Nat) : Int)) := congrArg (Value.int .i64) (by omega)
    refine ⟨rfl, m - 4, by omega, k + 1, e4, by omega, by omega, hj2⟩
  · (repeat (first | refine st ?_ | refine AW.label ?_ | refine blockA.here ?_ | refine blockA.exit rfl ?_ | (refine And.intro (by omega) ?_) | (refine AW.condT rfl rfl (by first | rfl | assumption) ?_) | (refine AW.condF rfl rfl (by first | rfl | assumption) ?_) | (refine AL.guT rfl (by first | rfl | assumption) ?_) | ((first | refine AL.ld rfl ?_ | refine AL.bx rfl ?_ | refine AL.al ?_ | refine AL.lt rfl ?_ | refine AL.st rfl rfl ?_ | refine AL.ap rfl rfl ?_ | refine AL.ca rfl ?_ | refine AL.slW (by kernel_rfl) rfl ?_ | refine AL.pu rfl ?_ | refine AL.guF rfl (by first | rfl | assumption) ?_); simp (disch := omega) only [Option.some.injEq, TypeDesc.slice.injEq, exists_eq_left', push_cast, ↓reduceIte, reduceCtorEq, Nat.reduceAdd, Nat.reduceMul, Nat.reduceLeDiff, Nat.reduceLT, Nat.reduceSub, Int.reduceNe, Int.reduceEq, Int.reduceLE, Int.reduceLT, Int.reduceToNat])))
    ((first | refine retA.ret (by rfl) ?_ | refine retA.normal (by rfl) ?_); simp (disch := omega) only [push_cast, ↓reduceIte, reduceCtorEq, Nat.reduceAdd, Nat.reduceMul, Nat.reduceLeDiff, Nat.reduceLT, Nat.reduceSub, Int.reduceNe, Int.reduceEq, Int.reduceLE, Int.reduceLT, Int.reduceToNat])
    have : k = (xs.length + 3) / 4 := by omega
    rw [← this]
    exact hj

end Go.Proofs.Ytbjipdmbdabniaa.Ax
