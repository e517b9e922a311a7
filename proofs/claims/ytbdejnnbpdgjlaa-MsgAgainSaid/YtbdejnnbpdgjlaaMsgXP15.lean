/- Contracts of functions over the abstract machine. No conditions: lemmas alone. -/
import Derived.Test.YtbdejnnbpdgjlaaMsgXLibD
import Derived.Test.YtbdejnnbpdgjlaaMsgXP12
import Derived.Test.YtbdejnnbpdgjlaaMsgXP14
import Derived.Test.YtbdejnnbpdgjlaaMsgXP0
import Derived.Test.YtbdejnnbpdgjlaaMsgXP3
namespace Go.Proofs.Ytbdejnnbpdgjlaa.Ax
open Go Go.RowKit
set_option linter.unusedVariables false
set_option linter.unusedSimpArgs false
set_option maxRecDepth 100000
set_option maxHeartbeats 20000000
/-! what is put is read -/
theorem two_pair {n : Int} (h : 0 ≤ n ∧ n ≤ 65535) : n / 256 % 256 * 256 + n % 256 = n := by omega
/-- What the law lets in. -/
def goodM (m : MV) : Prop := u32 m.asn ∧ u32 m.id ∧ (∀ p ∈ m.gone, goodX p) ∧ (∀ p ∈ m.new, goodX p) ∧ goodAV m.attrs ∧ ∀ x ∈ m.data, 0 ≤ x ∧ x ≤ 255
theorem bodyB_open {m : MV} (h : m.kind = 1) : bodyB m = [4, shortP m.asn / 256 % 256, shortP m.asn % 256, m.hold / 256 % 256, m.hold % 256, m.id / 16777216, m.id / 65536 % 256, m.id / 256 % 256, m.id % 256, 8, 2, 6, 65, 4, m.asn / 16777216, m.asn / 65536 % 256, m.asn / 256 % 256, m.asn % 256] := by
  unfold bodyB; rw [if_pos h]; rfl
theorem open_put {m : MV} (hk : m.kind = 1) (hr : rightM m) (hg : goodM m) : openP (bodyB m) = (ownM m, (0, 0)) := by
  unfold rightM at hr
  rw [if_pos hk] at hr
  obtain ⟨r1, r2, r3⟩ := hr
  have ga := hg.1
  have gi := hg.2.1
  have a1 := ga.1
  have a2 := ga.2
  have i1 := gi.1
  have i2 := gi.2
  have hs : 0 ≤ shortP m.asn ∧ shortP m.asn ≤ 65535 := by unfold shortP; split <;> omega
  rw [bodyB_open hk]
  have hw : wordAt [m.asn / 16777216, m.asn / 65536 % 256, m.asn / 256 % 256, m.asn % 256] 0 = m.asn := by
    show m.asn / 16777216 * 16777216 + m.asn / 65536 % 256 * 65536 + m.asn / 256 % 256 * 256 + m.asn % 256 = m.asn
    omega
  have hcap : ∀ x0 x1 x2 x3 : Int, capP 7 [65, 4, x0, x1, x2, x3] 0 false = some (wordAt [65, 4, x0, x1, x2, x3] 2, true) := by
    intro x0 x1 x2 x3
    simp [capP]
  have hpar : ∀ x0 x1 x2 x3 : Int, parP 19 [2, 6, 65, 4, x0, x1, x2, x3] 0 false = .inr (wordAt [65, 4, x0, x1, x2, x3] 2, true) := by
    intro x0 x1 x2 x3
    have hc := hcap x0 x1 x2 x3
    simp [parP, hc]
  unfold openP
  rw [if_neg (by simp), if_neg (by simp)]
  simp only [List.length_cons, List.length_nil, List.drop_succ_cons, List.drop_zero]
  rw [hpar]
  have e2 : wordAt [65, 4, m.asn / 16777216, m.asn / 65536 % 256, m.asn / 256 % 256, m.asn % 256] 2 = m.asn := hw
  simp only [e2]
  have p1 : pairAt [4, shortP m.asn / 256 % 256, shortP m.asn % 256, m.hold / 256 % 256, m.hold % 256, m.id / 16777216, m.id / 65536 % 256, m.id / 256 % 256, m.id % 256, 8, 2, 6, 65, 4, m.asn / 16777216, m.asn / 65536 % 256, m.asn / 256 % 256, m.asn % 256] 1 = shortP m.asn := two_pair hs
  have p3 : pairAt [4, shortP m.asn / 256 % 256, shortP m.asn % 256, m.hold / 256 % 256, m.hold % 256, m.id / 16777216, m.id / 65536 % 256, m.id / 256 % 256, m.id % 256, 8, 2, 6, 65, 4, m.asn / 16777216, m.asn / 65536 % 256, m.asn / 256 % 256, m.asn % 256] 3 = m.hold := two_pair (by omega)
  have p5 : wordAt [4, shortP m.asn / 256 % 256, shortP m.asn % 256, m.hold / 256 % 256, m.hold % 256, m.id / 16777216, m.id / 65536 % 256, m.id / 256 % 256, m.id % 256, 8, 2, 6, 65, 4, m.asn / 16777216, m.asn / 65536 % 256, m.asn / 256 % 256, m.asn % 256] 5 = m.id := by
    show m.id / 16777216 * 16777216 + m.id / 65536 % 256 * 65536 + m.id / 256 % 256 * 256 + m.id % 256 = m.id
    omega
  rw [p1, p3, p5]
  simp only [Bool.true_eq_false, if_false]
  rw [if_neg (by simp [r1]), if_neg (by omega), if_neg r2]
  unfold ownM
  rw [if_pos hk]
theorem pairAt_app {xs ys : List Int} {i : Nat} (h : i + 1 < xs.length) : pairAt (xs ++ ys) i = pairAt xs i := by
  unfold pairAt
  rw [getD_app (by omega), getD_app h]
theorem pairAt_two {n : Int} (h : 0 ≤ n ∧ n ≤ 65535) (pre ys : List Int) : pairAt (pre ++ twoB n ++ ys) pre.length = n := by
  unfold pairAt twoB
  have e0 : (pre ++ [n / 256 % 256, n % 256] ++ ys).getD pre.length 0 = n / 256 % 256 := by
    rw [List.getD_eq_getElem?_getD, List.append_assoc, List.getElem?_append_right (Nat.le_refl _), Nat.sub_self]; rfl
  have e1 : (pre ++ [n / 256 % 256, n % 256] ++ ys).getD (pre.length + 1) 0 = n % 256 := by
    rw [List.getD_eq_getElem?_getD, List.append_assoc, List.getElem?_append_right (by omega), Nat.add_sub_cancel_left]; rfl
  rw [e0, e1, two_pair h]
theorem update_put {m : MV} (hk : m.kind = 2) (hr : rightM m) (hg : goodM m) (hl : (bodyB m).length ≤ 4077) : updateP (bodyB m) = (ownM m, (0, 0)) := by
  unfold rightM at hr
  rw [if_neg (by omega), if_pos hk] at hr
  obtain ⟨r1, r2, r3⟩ := hr
  obtain ⟨g1, g2, g3, g4, g5, g6⟩ := hg
  obtain ⟨G, hG⟩ := nlPut_some r1
  obtain ⟨N, hN⟩ := nlPut_some r2
  have eb : bodyB m = twoB (G.length : Int) ++ G ++ twoB ((attrsB m).length : Int) ++ attrsB m ++ N := by
    unfold bodyB; rw [if_neg (by omega), if_pos hk, hG, hN]; rfl
  rw [eb] at hl ⊢
  simp only [List.length_append, twoB, List.length_cons, List.length_nil] at hl
  have hG0 := nlR_all hG g3
  have hN0 := nlR_all hN g4
  have u1 : updG (twoB (G.length : Int) ++ G ++ twoB ((attrsB m).length : Int) ++ attrsB m ++ N) = G.length := by
    unfold updG
    have := pairAt_two (n := (G.length : Int)) (by omega) [] (G ++ twoB ((attrsB m).length : Int) ++ attrsB m ++ N)
    simp only [List.nil_append, List.length_nil, List.append_assoc] at this ⊢
    rw [this]; omega
  have u2 : updA (twoB (G.length : Int) ++ G ++ twoB ((attrsB m).length : Int) ++ attrsB m ++ N) = (attrsB m).length := by
    unfold updA
    rw [u1]
    have := pairAt_two (n := ((attrsB m).length : Int)) (by omega) (twoB (G.length : Int) ++ G) (attrsB m ++ N)
    rw [show (twoB (G.length : Int) ++ G).length = 2 + G.length by simp [twoB]; omega] at this
    simp only [List.append_assoc] at this ⊢
    rw [this]; omega
  have d1 : ((twoB (G.length : Int) ++ G ++ twoB ((attrsB m).length : Int) ++ attrsB m ++ N).drop 2).take G.length = G := by
    simp [twoB]
  have d2 : (twoB (G.length : Int) ++ G ++ twoB ((attrsB m).length : Int) ++ attrsB m ++ N).drop (4 + G.length + (attrsB m).length) = N := by
    rw [List.drop_append_of_le_length (by simp [twoB]; omega), List.drop_of_length_le (by simp [twoB]; omega), List.nil_append]
  have d3 : ((twoB (G.length : Int) ++ G ++ twoB ((attrsB m).length : Int) ++ attrsB m ++ N).drop (4 + G.length)).take (attrsB m).length = attrsB m := by
    rw [show twoB (G.length : Int) ++ G ++ twoB ((attrsB m).length : Int) ++ attrsB m ++ N = (twoB (G.length : Int) ++ G ++ twoB ((attrsB m).length : Int)) ++ (attrsB m ++ N) by simp]
    rw [show 4 + G.length = (twoB (G.length : Int) ++ G ++ twoB ((attrsB m).length : Int)).length by simp [twoB]; omega, List.drop_left, List.take_left]
  have ha : rdP (decide (m.new ≠ [])) (attrsB m) = (if m.new = [] then AV.zero else m.attrs, 0) := by
    unfold attrsB
    by_cases hn : m.new = []
    · rw [if_pos hn, if_pos hn, decide_eq_false (by simp [hn])]; rfl
    · rw [if_neg hn, if_neg hn, decide_eq_true hn]
      exact rd_put (r3.resolve_left hn) g5
  obtain ⟨AT, hAT⟩ : ∃ AT, AT = if m.new = [] then AV.zero else m.attrs := ⟨_, rfl⟩
  rw [← hAT] at ha
  unfold updateP
  rw [u1, u2, d1, d2, d3, hG0, hN0]
  simp only [ha]
  rw [if_neg (by simp only [List.length_append, twoB, List.length_cons, List.length_nil]; omega), if_neg (by simp), if_neg (by simp)]
  unfold ownM
  rw [← hAT, if_neg (by omega), if_pos hk]
theorem body_put {m : MV} (hk : 1 ≤ m.kind ∧ m.kind ≤ 4) (hr : rightM m) (hg : goodM m) (hl : (bodyB m).length ≤ 4077) : bodyP m.kind (bodyB m) = (ownM m, (0, 0)) := by
  unfold bodyP
  by_cases k1 : m.kind = 1
  · rw [if_pos k1, open_put k1 hr hg]
  by_cases k2 : m.kind = 2
  · rw [if_neg k1, if_pos k2, update_put k2 hr hg hl]
  by_cases k3 : m.kind = 3
  · rw [if_neg k1, if_neg k2, if_pos k3]
    have e : bodyB m = m.code :: m.sub :: m.data := by unfold bodyB; rw [if_neg k1, if_neg k2, if_pos k3]
    rw [e]
    unfold ownM
    rw [if_neg k1, if_neg k2, if_pos k3]; rfl
  · rw [if_neg k1, if_neg k2, if_neg k3]
    unfold ownM
    rw [if_neg k1, if_neg k2, if_neg k3]
    have : m.kind = 4 := by omega
    rw [this]
theorem bodyB_least {m : MV} (hk : 1 ≤ m.kind ∧ m.kind ≤ 4) : leastP m.kind ≤ (bodyB m).length + 19 ∧ (m.kind = 4 → (bodyB m).length = 0) := by
  unfold leastP bodyB
  by_cases k1 : m.kind = 1
  · rw [if_pos k1, if_pos k1]; simp [twoB, addrBytes]; omega
  by_cases k2 : m.kind = 2
  · rw [if_neg k1, if_pos k2, if_neg k1, if_pos k2]; simp [twoB]; omega
  by_cases k3 : m.kind = 3
  · rw [if_neg k1, if_neg k2, if_pos k3, if_neg k1, if_neg k2, if_pos k3]; simp; omega
  · rw [if_neg k1, if_neg k2, if_neg k3, if_neg k1, if_neg k2, if_neg k3]; simp
theorem putM_ok {m : MV} (h : (putM m).2 = 0) : (1 ≤ m.kind ∧ m.kind ≤ 4) ∧ rightM m ∧ (bodyB m).length ≤ 4077 ∧ putM m = (List.replicate 16 255 ++ twoB ((bodyB m).length + 19 : Nat) ++ m.kind :: bodyB m, 0) := by
  unfold putM at h ⊢
  split at h
  · exact absurd h (by decide)
  · rename_i h1
    split at h
    · exact absurd h (by decide)
    · rename_i h2
      split at h
      · exact absurd h (by decide)
      · rename_i h3
        have hr : rightM m := by by_cases h : rightM m; exact h; exact absurd h h2
        refine ⟨by omega, hr, by omega, ?_⟩
        rw [if_neg h1, if_neg h2, if_neg h3]
theorem putM_len {m : MV} (h : (putM m).2 = 0) : (putM m).1.length = (bodyB m).length + 19 := by
  obtain ⟨_, _, _, e⟩ := putM_ok h
  rw [e]; simp [twoB]
/-- What is put is read, with whatever bytes behind it. -/
theorem readM_put {m : MV} (h : (putM m).2 = 0) (hg : goodM m) (ys : List Int) : readM ((putM m).1 ++ ys) = (ownM m, ((putM m).1.length : Int), (0, 0)) := by
  have hlen := putM_len h
  obtain ⟨hk, hr, hl, e⟩ := putM_ok h
  obtain ⟨b1, b2⟩ := bodyB_least hk
  have e1 : (putM m).1 = List.replicate 16 255 ++ twoB ((bodyB m).length + 19 : Nat) ++ m.kind :: bodyB m := by rw [e]
  rw [e1] at hlen ⊢
  have hp : pairAt (List.replicate 16 255 ++ twoB ((bodyB m).length + 19 : Nat) ++ m.kind :: bodyB m ++ ys) 16 = (bodyB m).length + 19 := by
    have := pairAt_two (n := (((bodyB m).length + 19 : Nat) : Int)) (by omega) (List.replicate 16 255) (m.kind :: bodyB m ++ ys)
    rw [List.length_replicate] at this
    rw [show List.replicate 16 255 ++ twoB ((bodyB m).length + 19 : Nat) ++ m.kind :: bodyB m ++ ys = List.replicate 16 255 ++ twoB ((bodyB m).length + 19 : Nat) ++ (m.kind :: bodyB m ++ ys) by simp, this]
    omega
  have h18 : (List.replicate 16 255 ++ twoB ((bodyB m).length + 19 : Nat) ++ m.kind :: bodyB m ++ ys).getD 18 0 = m.kind := rfl
  have hd : ((List.replicate 16 255 ++ twoB ((bodyB m).length + 19 : Nat) ++ m.kind :: bodyB m ++ ys).drop 19).take (bodyB m).length = bodyB m := by
    have : (List.replicate 16 255 ++ twoB ((bodyB m).length + 19 : Nat) ++ m.kind :: bodyB m ++ ys).drop 19 = bodyB m ++ ys := rfl
    rw [this, List.take_left]
  have hf : headF (List.replicate 16 255 ++ twoB ((bodyB m).length + 19 : Nat) ++ m.kind :: bodyB m ++ ys) = (0, 0) := by
    unfold headF
    rw [hp, h18, if_neg (by omega), if_neg (by omega), if_neg (by omega)]
  unfold readM
  rw [if_neg (by
    rintro ⟨x, hx, hne⟩
    have : (List.replicate 16 255 ++ twoB ((bodyB m).length + 19 : Nat) ++ m.kind :: bodyB m ++ ys).take 16 = List.replicate 16 255 := rfl
    rw [this] at hx
    exact hne (List.eq_of_mem_replicate hx)), if_neg (by rw [List.length_append, hlen]; omega), hf, if_neg (by simp), hp, if_neg (by rw [List.length_append, hlen]; omega), h18, show ((bodyB m).length + 19 : Int).toNat - 19 = (bodyB m).length by omega, hd, body_put hk hr hg hl, if_pos rfl, hlen]
  rfl
/-- A front of what is put is nothing yet. -/
theorem readM_front {m : MV} (h : (putM m).2 = 0) {k : Nat} (hk' : k < (putM m).1.length) : readM ((putM m).1.take k) = (MV.zero, 0, (0, 0)) := by
  have hlen := putM_len h
  obtain ⟨hk, hr, hl, e⟩ := putM_ok h
  obtain ⟨b1, b2⟩ := bodyB_least hk
  have e1 : (putM m).1 = List.replicate 16 255 ++ twoB ((bodyB m).length + 19 : Nat) ++ m.kind :: bodyB m := by rw [e]
  rw [e1] at hlen hk' ⊢
  unfold readM
  rw [if_neg (by
    rintro ⟨x, hx, hne⟩
    rw [List.take_take] at hx
    have h16 : (List.replicate 16 255 ++ twoB ((bodyB m).length + 19 : Nat) ++ m.kind :: bodyB m).take (min 16 k) = (List.replicate 16 (255 : Int)).take (min 16 k) := by
      rw [List.append_assoc, List.take_append_of_le_length (by simp; omega)]
    rw [h16] at hx
    exact hne (List.eq_of_mem_replicate (List.mem_of_mem_take hx)))]
  by_cases h19 : k < 19
  · rw [if_pos (by rw [List.length_take]; omega)]
  · have hp : pairAt ((List.replicate 16 255 ++ twoB ((bodyB m).length + 19 : Nat) ++ m.kind :: bodyB m).take k) 16 = (bodyB m).length + 19 := by
      obtain ⟨j, rfl⟩ : ∃ j, k = 19 + j := ⟨k - 19, by omega⟩
      have := two_pair (n := (((bodyB m).length + 19 : Nat) : Int)) (by omega)
      rw [Nat.add_comm]
      show (((bodyB m).length + 19 : Nat) : Int) / 256 % 256 * 256 + (((bodyB m).length + 19 : Nat) : Int) % 256 = _
      rw [this]; omega
    have h18 : ((List.replicate 16 255 ++ twoB ((bodyB m).length + 19 : Nat) ++ m.kind :: bodyB m).take k).getD 18 0 = m.kind := by
      obtain ⟨j, rfl⟩ : ∃ j, k = 19 + j := ⟨k - 19, by omega⟩
      rw [Nat.add_comm]; rfl
    have hf : headF ((List.replicate 16 255 ++ twoB ((bodyB m).length + 19 : Nat) ++ m.kind :: bodyB m).take k) = (0, 0) := by
      unfold headF
      rw [hp, h18, if_neg (by omega), if_neg (by omega), if_neg (by omega)]
    rw [if_neg (by rw [List.length_take]; omega), hf, if_neg (by simp), hp, if_pos (by rw [List.length_take]; omega)]

end Go.Proofs.Ytbdejnnbpdgjlaa.Ax

namespace Go.Proofs.Ytbdejnnbpdgjlaa.Ax
open Go Go.RowKit
open Nat renaming reduceAdd → ν1, reduceMul → ν2, reduceLeDiff → ν3, reduceLT → ν4, reduceSub → ν5
open Int renaming reduceNe → ζ1, reduceEq → ζ2, reduceLE → ζ3, reduceLT → ζ4, reduceToNat → ζ5
set_option linter.unusedVariables false
set_option linter.unusedSimpArgs false
set_option maxRecDepth 100000
set_option maxHeartbeats 20000000
attribute [local irreducible] thenA blockA scopeA retA AL AW AD ADL AH clrK CallA apure aload bload appK ptrK fnK ares szOk planOk okOps
theorem gmask_spec (p : PX) (M : Mem) (h0 : 0 ≤ p.1 ∧ p.1 ≤ 4294967295) : CallA Try.prog 46 [.agg ⟨[.int .u32 p.1, .int .i64 p.2]⟩] M fun r M' => Fr M M' [] ∧ r = .agg ⟨[.int .u32 (maskP p).1, .int .i64 (maskP p).2]⟩ := by
  obtain ⟨a, n⟩ := p
  simp only at h0 ⊢
  obtain ⟨k, hk⟩ : ∃ k, k = maskN n := ⟨_, rfl⟩
  have hk32 : k ≤ 32 := by rw [hk]; exact maskN_le n
  have e : maskP (a, n) = (a / 2 ^ (32 - k) * 2 ^ (32 - k), (k : Int)) := by rw [hk]; rfl
  have hkv : (if (if 32 < n then (32 : Int) else n) > 0 then (if 32 < n then (32 : Int) else n) else 0) = k := by
    rw [hk]; unfold maskN
    repeat' split
    all_goals omega
  rw [e]
  obtain ⟨j, hj⟩ : ∃ j, j = 32 - k := ⟨_, rfl⟩
  rw [← hj]
  have hjk : (32 : Int) - (k : Int) = (j : Int) := by omega
  have hm : min j IntKind.u64.bits = j := Nat.min_eq_left (by show j ≤ 64; omega)
  have hp := pow_pos32 j
  have hfd : a.fdiv (2 ^ j) = a / 2 ^ j := fdiv_in (by omega)
  have hle := Int.ediv_mul_le a (show (2 : Int) ^ j ≠ 0 by omega)
  have hge : 0 ≤ a / 2 ^ j * 2 ^ j := Int.mul_nonneg (Int.ediv_nonneg (by omega) (by omega)) (by omega)
  have w1 : IntKind.u64.wrap a = a := w_u64 (by omega) (by omega)
  have w2 : IntKind.u64.wrap (a / 2 ^ j * 2 ^ j) = a / 2 ^ j * 2 ^ j := w_u64 hge (by omega)
  have w3 : IntKind.u32.wrap (a / 2 ^ j * 2 ^ j) = a / 2 ^ j * 2 ^ j := w_u32 hge (by omega)
  have w4 : IntKind.i64.wrap (j : Int) = j := w_i64 (by omega) (by omega)
  (refine CallA.of_body Try.func46 rfl (by rfl) ?_; simp only [Try.ntmps46, List.length_cons, List.length_nil, List.replicate, List.cons_append, List.nil_append, Nat.reduceSub, Nat.reduceAdd])
  (repeat (first | refine st ?_ | refine σa ?_ | (refine σb ?_; simp (disch := omega) only [push_cast, ↓reduceIte, reduceCtorEq, ν1, ν2, ν3, ν4, ν5, ζ1, ζ2, ζ3, ζ4, ζ5, hkv, hjk, w1, w2, w3, w4, hfd, hm, Int.toNat_natCast, buildE, memE, boxE])))
  ((first | refine retA.ret (by rfl) ?_ | refine retA.normal (by rfl) ?_); simp (disch := omega) only [push_cast, ↓reduceIte, reduceCtorEq, Nat.reduceAdd, Nat.reduceMul, Nat.reduceLeDiff, Nat.reduceLT, Nat.reduceSub, Int.reduceNe, Int.reduceEq, Int.reduceLE, Int.reduceLT, Int.reduceToNat, memE, boxE])
  exact Fr.push2 _ _ _
end Go.Proofs.Ytbdejnnbpdgjlaa.Ax

namespace Go.Proofs.Ytbdejnnbpdgjlaa.Ax
open Go Go.RowKit
set_option linter.unusedVariables false
set_option linter.unusedSimpArgs false
set_option maxRecDepth 100000
set_option maxHeartbeats 20000000
/-! pieces of an array variable -/
def isArT (P : Program) (ty : TypeId) : Bool := match P.underlying ty with
  | some (.array _ _) => true
  | _ => false
def arLen (P : Program) (ty : TypeId) : Option Nat := match P.underlying ty with
  | some (.array n e) => if tsz P e = some 1 then some n else none
  | _ => none
theorem arLen_inv {P : Program} {ty : TypeId} {n : Nat} (h : arLen P ty = some n) : ∃ e, P.underlying ty = some (.array n e) ∧ tsz P e = some 1 := by
  unfold arLen at h
  split at h
  · rename_i m e hu
    split at h
    · cases h; exact ⟨e, hu, by assumption⟩
    · cases h
  · cases h
def LP.cut (b j n : Nat) : LP := ⟨fun M => ∃ cs, M[b]? = some (.box cs) ∧ j + n ≤ cs.length, fun M M' ⟨cs, h1, h2⟩ f => ⟨cs, by rw [f.2 b (List.getElem?_eq_some_iff.1 h1).1 (by simp)]; exact h1, h2⟩⟩
section
variable {P : Program} {ops : Array Oper} {todo done : List Nat} {Ls : List (Nat × LP)} {rest : List Oper} {K : List Value → Mem → Prop} {t : List Value} {M : Mem}
variable {i : Nat} {dst : Option Tmp} {type : TypeId} {pos : String} {after : Array Edge}
theorem AL.cutW {ty : TypeId} {x : Operand} {lo hi : Option Operand} (ht : isArT P ty = true) (hok : okOpds ⟨dst, .slice ty x lo hi none, type, pos, after, none⟩ = true)
    (h : ptrK (ev t x) fun b j => ∃ n, arLen P ty = some n ∧ ∃ cs, M[b]? = some (.box cs) ∧ ∃ l, natOf (lo.map (ev t)) 0 = some l ∧ ∃ r, natOf (hi.map (ev t)) n = some r ∧ l ≤ r ∧ r ≤ n ∧ j + n ≤ cs.length ∧ AL P ops rest K (putT t dst (.slice (some ⟨b, j + l, none⟩) (r - l) (n - l))) M) : AL P ops (⟨dst, .slice ty x lo hi none, type, pos, after, none⟩ :: rest) K t M := by
  obtain ⟨b, j, hx, n, hn, cs, hM, l, hl, r, hr, h1, h2, h3, hc⟩ := ptrK_elim h
  obtain ⟨e, hu, hs⟩ := arLen_inv hn
  exact AL.op hok rfl (AOp.load (load_cut rfl hu hs hx hl hr ⟨h1, h2⟩) ⟨cs, hM, h3⟩ hc)
theorem AH.cutW {ty : TypeId} {x : Operand} {lo hi : Option Operand} (ht : isArT P ty = true) (hok : okOpds ⟨dst, .slice ty x lo hi none, type, pos, after, none⟩ = true)
    (h : ptrK (ev t x) fun b j => ∃ n, arLen P ty = some n ∧ ∃ cs, M[b]? = some (.box cs) ∧ ∃ l, natOf (lo.map (ev t)) 0 = some l ∧ ∃ r, natOf (hi.map (ev t)) n = some r ∧ l ≤ r ∧ r ≤ n ∧ j + n ≤ cs.length ∧ ADL P ops todo (i :: done) (Ls ++ [(i, LP.cut b j n)]) K (putT t dst (.slice (some ⟨b, j + l, none⟩) (r - l) (n - l))) M) : AH P ops dst (.slice ty x lo hi none) type pos after none i todo done Ls K t M := fun ho => by
  obtain ⟨b, j, hx, n, hn, cs, hM, l, hl, r, hr, h1, h2, h3, hc⟩ := ptrK_elim h
  obtain ⟨e, hu, hs⟩ := arLen_inv hn
  exact ADL.lp (LP.cut b j n) ho rfl hok rfl (load_cut rfl hu hs hx hl hr ⟨h1, h2⟩) ⟨cs, hM, h3⟩ hc
/-- An append, a piece of an array variable still leant on. -/
theorem AH.apC {ty ty' : TypeId} {x y : Operand} {Ls0 : List (Nat × LP)} {j b j0 n : Nat} (hok : okOpd x = true) (hok' : okOpd y = true) (hL : (Ls0.map Prod.fst).all (fun x => bef ops x i) = true)
    (h : appK P ty ty' (ev t x) (ev t y) M fun v' M' => (∃ cs, M'[b]? = some (.box cs) ∧ j0 + n ≤ cs.length) ∧ ADL P ops todo (i :: done) [(j, LP.cut b j0 n)] K (putT t dst v') M') : AH P ops dst (.call { callee := .builtin .append, args := ⟨[x, y]⟩, argTypes := ⟨[ty, ty']⟩ }) type pos after none i todo done (Ls0 ++ [(j, LP.cut b j0 n)]) K t M := fun ho => by
  refine ADL.ef ho rfl (by simp [okOpds, calmOp, Op.operands, Call.operands, hok, hok']) rfl ((appK_sound rfl h).mono fun v M' h => ?_)
  have hf : ∀ p ∈ (Ls0 ++ [(j, LP.cut b j0 n)]).filter (fun p => !bef ops p.1 i), p = (j, LP.cut b j0 n) := by
    intro p hp
    obtain ⟨h1, h2⟩ := List.mem_filter.1 hp
    rcases List.mem_append.1 h1 with h1 | h1
    · have := List.all_eq_true.1 hL p.1 (List.mem_map_of_mem h1)
      rw [this] at h2; cases h2
    · exact List.mem_singleton.1 h1
  refine ⟨fun p hp => by rw [hf p hp]; exact h.1, fun h1 h2 h3 => ?_⟩
  refine AD.drop (h.2 h1 h2 (fun p hp => by rw [List.mem_singleton.1 hp]; exact h.1)) (fun p hp => ?_) (fun p hp => ?_)
  · obtain ⟨q, hq, rfl⟩ := List.mem_map.1 hp
    rw [hf q hq]; simp
  · obtain ⟨q, hq, rfl⟩ := List.mem_map.1 hp
    rw [List.mem_singleton.1 hq]; exact h.1
end
/-- A piece of a box reads as its cells. -/
theorem Sl.ofBox {M : Mem} {b j r n : Nat} {cs : List Value} (hM : M[b]? = some (.box cs)) (h1 : j + n ≤ cs.length) (h2 : r ≤ n) (h3 : n < capLow) (ho : cs.all Value.oneCell' = true) : Sl M (.slice (some ⟨b, j, none⟩) r n) 1 ((cs.drop j).take r) := by
  have hb := (List.getElem?_eq_some_iff.1 hM).1
  have hl : ((cs.drop j).take r).length = r := by rw [List.length_take, List.length_drop]; omega
  refine ⟨.inr ⟨b, j, r, n, rfl, hb, by unfold capLb; rw [if_pos h3]; exact h2⟩, by rw [hl]; simp [sln], ⟨by omega, fun a n' c B hv _ hB => ?_⟩, ?_, fun _ => ?_⟩
  · cases hv
    rw [hM] at hB
    cases hB; rfl
  · rw [List.all_eq_true] at ho ⊢
    intro x hx
    exact ho x (List.mem_of_mem_drop (List.mem_of_mem_take hx))
  · rw [hl]
    show Ax.cellsM M b j r = _
    unfold Ax.cellsM
    rw [hM, Option.bind_some]
    show (if j + r ≤ cs.length then _ else none) = _
    rw [if_pos (by omega)]; rfl

end Go.Proofs.Ytbdejnnbpdgjlaa.Ax

namespace Go.Proofs.Ytbdejnnbpdgjlaa.Ax
open Go Go.RowKit
open Nat renaming reduceAdd → ν1, reduceMul → ν2, reduceLeDiff → ν3, reduceLT → ν4, reduceSub → ν5
open Int renaming reduceNe → ζ1, reduceEq → ζ2, reduceLE → ζ3, reduceLT → ζ4, reduceToNat → ζ5
set_option linter.unusedVariables false
set_option linter.unusedSimpArgs false
set_option maxRecDepth 100000
set_option maxHeartbeats 20000000
attribute [local irreducible] thenA blockA scopeA retA AL AW AD ADL AH clrK CallA apure aload bload appK ptrK fnK ares szOk planOk okOps
theorem d130_Nl2 {g n : Prop} (k : n) (h : n → g := by first | exact AW.dr (id := 1) (by rfl) [0, 1, 2, 3] (by kernel_rfl) (by kernel_rfl)) : g := h k
theorem a130_Nl2 {g n : Prop} (k : n) (h : n → g := by first | exact AH.ca (dst := some 5) rfl) : g := h k
theorem d59_Nl2 {g n : Prop} (k : n) (h : n → g := by first | exact AW.dr (id := 6) (by rfl) [0, 1, 2, 3, 4, 5, 6, 7, 8] (by kernel_rfl) (by kernel_rfl)) : g := h k
theorem px_eq (p q : PX) : aeqV Try.prog 3 32 (.agg ⟨[.int .u32 p.1, .int .i64 p.2]⟩) (.agg ⟨[.int .u32 q.1, .int .i64 q.2]⟩) = some (decide (p = q)) := by
  have h : aeqV Try.prog 3 32 (.agg ⟨[.int .u32 p.1, .int .i64 p.2]⟩) (.agg ⟨[.int .u32 q.1, .int .i64 q.2]⟩) = if (p.1 == q.1) = true then (if (p.2 == q.2) = true then some true else some false) else some false := by kernel_rfl
  rw [h]
  obtain ⟨a, n⟩ := p
  obtain ⟨b, m⟩ := q
  by_cases h1 : a = b <;> by_cases h2 : n = m <;> simp [h1, h2]
theorem pxs_get {l : List PX} {i : Nat} (h : i < l.length) : (pxs l)[i * 2]? = some (.int .u32 (l.getD i (0, 0)).1) ∧ (pxs l)[i * 2 + 1]? = some (.int .i64 (l.getD i (0, 0)).2) := by
  induction l generalizing i with
  | nil => simp at h
  | cons p l ih =>
    cases i with
    | zero => exact ⟨rfl, rfl⟩
    | succ i =>
      have := ih (i := i) (by simpa using h)
      have e : pxs (p :: l) = .int .u32 p.1 :: .int .i64 p.2 :: pxs l := rfl
      rw [e, show (i + 1) * 2 = i * 2 + 1 + 1 by omega, show i * 2 + 1 + 1 + 1 = (i * 2 + 1) + 1 + 1 by omega]
      simpa using this
theorem Sl.lnX {M : Mem} {v : Value} {l : List PX} (h : Sl M v 2 (pxs l)) : sln v = l.length := by have := h.len; rw [pxs_length] at this; omega
theorem Sl.ldX {M : Mem} {v : Value} {l : List PX} (h : Sl M v 2 (pxs l)) {i : Nat} (hi : i < l.length) : aload Try.prog 32 M (sbk v) (sof v + i * 2) = some (.agg ⟨[.int .u32 (l.getD i (0, 0)).1, .int .i64 (l.getD i (0, 0)).2]⟩) := by
  have hc := h.cellsM (j := i * 2) (n := 2) (by omega) (by rw [pxs_length]; omega)
  obtain ⟨g1, g2⟩ := pxs_get hi
  have e : ((pxs l).drop (i * 2)).take 2 = [.int .u32 (l.getD i (0, 0)).1, .int .i64 (l.getD i (0, 0)).2] := by
    apply List.ext_getElem?
    intro j
    rw [List.getElem?_take, List.getElem?_drop]
    match j with
    | 0 => simpa using g1
    | 1 => simpa using g2
    | j + 2 => rw [if_neg (by omega)]; rfl
  rw [e] at hc
  have hu : ∃ fs, Try.prog.underlying 32 = some (.struct fs) := ⟨_, Try.underlying32⟩
  obtain ⟨fs, hu⟩ := hu
  have ht : tsz Try.prog 32 = some 2 := by kernel_rfl
  unfold aload
  rw [hu]
  simp only [ht, Option.bind_some]
  rw [hc]; rfl
theorem nbytes_spec (n : Int) (M : Mem) (h : 0 ≤ n ∧ n ≤ 1000) : CallA Try.prog 120 [.int .i64 n] M fun r M' => M' = M ∧ r = .int .i64 (nbytes n : Nat) := by
  have h1 := h.1
  have h2 := h.2
  (refine CallA.of_body Try.func120 rfl (by rfl) ?_; simp only [Try.ntmps120, List.length_cons, List.length_nil, List.replicate, List.cons_append, List.nil_append, Nat.reduceSub, Nat.reduceAdd])
  (repeat (first | refine st ?_ | refine σa ?_ | (refine σb ?_; simp (disch := omega) only [push_cast, ↓reduceIte, reduceCtorEq, ν1, ν2, ν3, ν4, ν5, ζ1, ζ2, ζ3, ζ4, ζ5, w_i64, tdiv_in])))
  ((first | refine retA.ret (by rfl) ?_ | refine retA.normal (by rfl) ?_); simp (disch := omega) only [push_cast, ↓reduceIte, reduceCtorEq, Nat.reduceAdd, Nat.reduceMul, Nat.reduceLeDiff, Nat.reduceLT, Nat.reduceSub, Int.reduceNe, Int.reduceEq, Int.reduceLE, Int.reduceLT, Int.reduceToNat])
  refine congrArg _ ?_
  unfold nbytes
  omega
theorem size_spec (p : PX) (M : Mem) (h0 : goodX p) : CallA Try.prog 130 [.agg ⟨[.int .u32 p.1, .int .i64 p.2]⟩] M fun r M' => Fr M M' [] ∧ r = .int .i64 (sizeX p : Nat) := by
  (refine CallA.of_body Try.func130 rfl (by rfl) ?_; simp only [Try.ntmps130, List.length_cons, List.length_nil, List.replicate, List.cons_append, List.nil_append, Nat.reduceSub, Nat.reduceAdd])
  (repeat (first | refine st ?_ | refine σa ?_ | refine d130_Nl2 ?_ | ((first | refine a130_Nl2 ?_ | refine σb ?_ | refine σc ?_); simp (disch := omega) only [push_cast, ↓reduceIte, reduceCtorEq, ν1, ν2, ν3, ν4, ν5, ζ1, ζ2, ζ3, ζ4, ζ5, buildE, memE, boxE])))
  refine (gmask_spec p _ h0).mono ?_
  rintro r M2 ⟨hF2, rfl⟩
  refine ⟨hF2, ?_⟩
  have pe := px_eq p (maskP p)
  (repeat (first | refine st ?_ | refine σa ?_ | refine d130_Nl2 ?_ | ((first | refine a130_Nl2 ?_ | refine σb ?_ | refine σc ?_); simp (disch := omega) only [push_cast, ↓reduceIte, reduceCtorEq, ν1, ν2, ν3, ν4, ν5, ζ1, ζ2, ζ3, ζ4, ζ5, pe])))
  have l2 : ∀ ty j, aload Try.prog ty M2 M.length j = bload Try.prog ty [.int .u32 p.1, .int .i64 p.2] j := fun ty j => ((At.push M (.box [.int .u32 p.1, .int .i64 p.2])).keep hF2 (by simp)).ld
  have hFF := (Fr.push M (.box [.int .u32 p.1, .int .i64 p.2])).tr hF2
  by_cases c : p = maskP p
  · have d : decide (p = maskP p) = true := decide_eq_true c
    have hl := rightX_len (p := p) c
    rw [d]
    (repeat (first | refine st ?_ | refine σa ?_ | refine d130_Nl2 ?_ | ((first | refine a130_Nl2 ?_ | refine σb ?_ | refine σc ?_); simp (disch := omega) only [push_cast, ↓reduceIte, reduceCtorEq, ν1, ν2, ν3, ν4, ν5, ζ1, ζ2, ζ3, ζ4, ζ5, l2])))
    refine (nbytes_spec p.2 M2 (by omega)).mono ?_
    rintro r M3 ⟨rfl, rfl⟩
    have nb := nbytes_le hl
    (repeat (first | refine st ?_ | refine σa ?_ | refine d130_Nl2 ?_ | ((first | refine a130_Nl2 ?_ | refine σb ?_ | refine σc ?_); simp (disch := omega) only [push_cast, ↓reduceIte, reduceCtorEq, ν1, ν2, ν3, ν4, ν5, ζ1, ζ2, ζ3, ζ4, ζ5, w_i64])))
    ((first | refine retA.ret (by rfl) ?_ | refine retA.normal (by rfl) ?_); simp (disch := omega) only [push_cast, ↓reduceIte, reduceCtorEq, Nat.reduceAdd, Nat.reduceMul, Nat.reduceLeDiff, Nat.reduceLT, Nat.reduceSub, Int.reduceNe, Int.reduceEq, Int.reduceLE, Int.reduceLT, Int.reduceToNat])
    refine ⟨hFF, ?_⟩
    unfold sizeX
    rw [if_pos (show rightX p from c)]
    push_cast; rfl
  · have d : decide (p = maskP p) = false := decide_eq_false c
    rw [d]
    (repeat (first | refine st ?_ | refine σa ?_ | refine d130_Nl2 ?_ | ((first | refine a130_Nl2 ?_ | refine σb ?_ | refine σc ?_); simp (disch := omega) only [push_cast, ↓reduceIte, reduceCtorEq, ν1, ν2, ν3, ν4, ν5, ζ1, ζ2, ζ3, ζ4, ζ5])))
    ((first | refine retA.ret (by rfl) ?_ | refine retA.normal (by rfl) ?_); simp (disch := omega) only [push_cast, ↓reduceIte, reduceCtorEq, Nat.reduceAdd, Nat.reduceMul, Nat.reduceLeDiff, Nat.reduceLT, Nat.reduceSub, Int.reduceNe, Int.reduceEq, Int.reduceLE, Int.reduceLT, Int.reduceToNat])
    refine ⟨hFF, ?_⟩
    unfold sizeX
    rw [if_neg (show ¬ rightX p from c)]; rfl
theorem psame_spec (v w : Value) (l m : List PX) (M : Mem) (hv : Sl M v 2 (pxs l)) (hw : Sl M w 2 (pxs m)) (hl : l.length ≤ 1000000000) : CallA Try.prog 59 [v, w] M fun r M' => M' = M ∧ r = .bool (decide (l = m)) := by
  have hs := hv.isSl
  have hn := hv.lnX
  have hs2 := hw.isSl
  have hn2 := hw.lnX
  (refine CallA.of_body Try.func59 rfl (by rfl) ?_; simp only [Try.ntmps59, List.length_cons, List.length_nil, List.replicate, List.cons_append, List.nil_append, Nat.reduceSub, Nat.reduceAdd])
  by_cases hlen : l.length = m.length
  rotate_left
  · have d0 : decide ((l.length : Int) = m.length) = false := decide_eq_false (by omega)
    (repeat (first | refine st ?_ | refine σa ?_ | refine d59_Nl2 ?_ | ((first | refine σb ?_ | refine σc ?_); simp (disch := omega) only [push_cast, ↓reduceIte, reduceCtorEq, ν1, ν2, ν3, ν4, ν5, ζ1, ζ2, ζ3, ζ4, ζ5, hs, hn, hs2, hn2, d0, Bool.not_false])))
    ((first | refine retA.ret (by rfl) ?_ | refine retA.normal (by rfl) ?_); simp (disch := omega) only [push_cast, ↓reduceIte, reduceCtorEq, Nat.reduceAdd, Nat.reduceMul, Nat.reduceLeDiff, Nat.reduceLT, Nat.reduceSub, Int.reduceNe, Int.reduceEq, Int.reduceLE, Int.reduceLT, Int.reduceToNat])
    have hx : l ≠ m := fun e => hlen (by rw [e])
    simp [hx]
  have d0 : decide ((l.length : Int) = m.length) = true := decide_eq_true (by omega)
  (repeat (first | refine st ?_ | refine σa ?_ | refine d59_Nl2 ?_ | ((first | refine σb ?_ | refine σc ?_); simp (disch := omega) only [push_cast, ↓reduceIte, reduceCtorEq, ν1, ν2, ν3, ν4, ν5, ζ1, ζ2, ζ3, ζ4, ζ5, hs, hn, hs2, hn2, d0, Bool.not_true])))
  refine AW.loopF [4, 5, 13, 14, 15, 16, 17, 18, 19, 20, 21, 22, 23, 24, 25] (fun n g M' => ∃ i : Nat, g 13 = .int .i64 i ∧ i + n = l.length ∧ M' = M ∧ ∀ q, q < i → l.getD q (0, 0) = m.getD q (0, 0)) l.length ?_ ?_
  · exact ⟨0, rfl, by omega, rfl, fun q h => by omega⟩
  rintro n g M1 ⟨i, h13, hi, rfl, he⟩
  simp (disch := omega) only [push_cast, ↓reduceIte, reduceCtorEq, Nat.reduceAdd, Nat.reduceMul, Nat.reduceLeDiff, Nat.reduceLT, Nat.reduceSub, Int.reduceNe, Int.reduceEq, Int.reduceLE, Int.reduceLT, Int.reduceToNat, h13]
  (repeat (first | refine st ?_ | refine σa ?_ | refine d59_Nl2 ?_ | ((first | refine σb ?_ | refine σc ?_); simp (disch := omega) only [push_cast, ↓reduceIte, reduceCtorEq, ν1, ν2, ν3, ν4, ν5, ζ1, ζ2, ζ3, ζ4, ζ5])))
  ((first | refine AL.gu rfl (fun hlt => ?_) (fun hlt => ?_) | refine AW.condS rfl rfl (fun hlt => ?_) (fun hlt => ?_)) <;> (try (have hlt' := hlt; simp only [Bool.not_eq_true', Bool.not_eq_false', Bool.not_true, Bool.not_false, decide_eq_true_eq, decide_eq_false_iff_not, Classical.not_not, Int.not_lt, Int.not_le, gt_iff_lt, ge_iff_le, beq_iff_eq] at hlt')))
  · have l1 := hv.ldX (i := i) (by omega)
    have l2 := hw.ldX (i := i) (by omega)
    have pe := px_eq (l.getD i (0, 0)) (m.getD i (0, 0))
    (repeat (first | refine st ?_ | refine σa ?_ | refine d59_Nl2 ?_ | ((first | refine σb ?_ | refine σc ?_); simp (disch := omega) only [push_cast, ↓reduceIte, reduceCtorEq, ν1, ν2, ν3, ν4, ν5, ζ1, ζ2, ζ3, ζ4, ζ5, hs, hn, hs2, hn2, l1, l2, pe, Int.toNat_natCast])))
    by_cases c : l.getD i (0, 0) = m.getD i (0, 0)
    · have d : decide (l.getD i (0, 0) = m.getD i (0, 0)) = true := decide_eq_true c
      rw [d]
      (repeat (first | refine st ?_ | refine σa ?_ | refine d59_Nl2 ?_ | ((first | refine σb ?_ | refine σc ?_); simp (disch := omega) only [push_cast, ↓reduceIte, reduceCtorEq, ν1, ν2, ν3, ν4, ν5, ζ1, ζ2, ζ3, ζ4, ζ5, w_i64])))
      refine ⟨rfl, n - 1, by omega, i + 1, rfl, by omega, rfl, fun q hq => ?_⟩
      by_cases e : q = i
      · rw [e]; exact c
      · exact he q (by omega)
    · have d : decide (l.getD i (0, 0) = m.getD i (0, 0)) = false := decide_eq_false c
      rw [d]
      (repeat (first | refine st ?_ | refine σa ?_ | refine d59_Nl2 ?_ | ((first | refine σb ?_ | refine σc ?_); simp (disch := omega) only [push_cast, ↓reduceIte, reduceCtorEq, ν1, ν2, ν3, ν4, ν5, ζ1, ζ2, ζ3, ζ4, ζ5])))
      ((first | refine retA.ret (by rfl) ?_ | refine retA.normal (by rfl) ?_); simp (disch := omega) only [push_cast, ↓reduceIte, reduceCtorEq, Nat.reduceAdd, Nat.reduceMul, Nat.reduceLeDiff, Nat.reduceLT, Nat.reduceSub, Int.reduceNe, Int.reduceEq, Int.reduceLE, Int.reduceLT, Int.reduceToNat])
      have hx : l ≠ m := fun e => c (by rw [e])
      simp [hx]
  · (repeat (first | refine st ?_ | refine σa ?_ | refine d59_Nl2 ?_ | ((first | refine σb ?_ | refine σc ?_); simp (disch := omega) only [push_cast, ↓reduceIte, reduceCtorEq, ν1, ν2, ν3, ν4, ν5, ζ1, ζ2, ζ3, ζ4, ζ5])))
    ((first | refine retA.ret (by rfl) ?_ | refine retA.normal (by rfl) ?_); simp (disch := omega) only [push_cast, ↓reduceIte, reduceCtorEq, Nat.reduceAdd, Nat.reduceMul, Nat.reduceLeDiff, Nat.reduceLT, Nat.reduceSub, Int.reduceNe, Int.reduceEq, Int.reduceLE, Int.reduceLT, Int.reduceToNat])
    have hx : l = m := by
      apply List.ext_getElem hlen
      intro q h1 h2
      have := he q (by omega)
      rw [List.getD_eq_getElem?_getD, List.getD_eq_getElem?_getD, List.getElem?_eq_getElem h1, List.getElem?_eq_getElem h2] at this
      simpa using this
    simp [hx]

end Go.Proofs.Ytbdejnnbpdgjlaa.Ax
