/- Contracts of functions over the abstract machine. No conditions: lemmas alone. -/
import Derived.Test.YtbdejnnbpdgjlaaMsgXLibD
import Derived.Test.YtbdejnnbpdgjlaaMsgXP0
import Derived.Test.YtbdejnnbpdgjlaaMsgXP16
import Derived.Test.YtbdejnnbpdgjlaaMsgXP15
namespace Go.Proofs.Ytbdejnnbpdgjlaa.Ax
open Go Go.RowKit
open Nat renaming reduceAdd → ν1, reduceMul → ν2, reduceLeDiff → ν3, reduceLT → ν4, reduceSub → ν5
open Int renaming reduceNe → ζ1, reduceEq → ζ2, reduceLE → ζ3, reduceLT → ζ4, reduceToNat → ζ5
set_option linter.unusedVariables false
set_option linter.unusedSimpArgs false
set_option maxRecDepth 100000
set_option maxHeartbeats 20000000
attribute [local irreducible] thenA blockA scopeA retA AL AW AD ADL AH clrK CallA apure aload bload appK ptrK fnK ares szOk planOk okOps
/-- A message's slices. -/
structure MVin (M : Mem) (m : MV) (g a c nw d : Value) : Prop where
  gone : Sl M g 2 (pxs m.gone)
  path : Sl M a 1 (ints .u32 m.attrs.path)
  comms : Sl M c 1 (ints .u32 m.attrs.comms)
  new : Sl M nw 2 (pxs m.new)
  data : Sl M d 1 (ints .u8 m.data)
theorem MVin.keep {M M' : Mem} {m : MV} {g a c nw d : Value} {X : List Nat} (h : MVin M m g a c nw d) (f : Fr M M' X) (hx : ∀ b, b < M.length → b ∉ X) : MVin M' m g a c nw d :=
  ⟨h.gone.keep f (fun b hb => hx b (h.gone.blks b hb)), h.path.keep f (fun b hb => hx b (h.path.blks b hb)), h.comms.keep f (fun b hb => hx b (h.comms.blks b hb)), h.new.keep f (fun b hb => hx b (h.new.blks b hb)), h.data.keep f (fun b hb => hx b (h.data.blks b hb))⟩
/-- Not more than is looked at. -/
def sizeM (m : MV) : Prop := m.gone.length ≤ 20000 ∧ m.new.length ≤ 20000 ∧ m.data.length ≤ 20000 ∧ m.attrs.path.length ≤ 100000 ∧ m.attrs.comms.length ≤ 100000
theorem twoB_wrap (n : Int) : twoB (n % 65536) = twoB n := by
  unfold twoB
  have e1 : n % 65536 / 256 % 256 = n / 256 % 256 := by omega
  have e2 : n % 65536 % 256 = n % 256 := by omega
  rw [e1, e2]
theorem wupd_spec (p : Nat) (v : Value) (bs : List Int) (m : MV) (g a c nw d : Value) (M : Mem) (h : WrA M p v bs) (hi : MVin M m g a c nw d) (hk : m.kind = 2) (hr : rightM m) (hg : goodM m) (hz : sizeM m) (hl : bs.length ≤ 1000) :
    CallA Try.prog 66 [.pointer (some ⟨p, 0, none⟩), .agg ⟨mvL m g a c nw d⟩] M fun r M' => r = .tuple ⟨[]⟩ ∧ WrS M p v (bs ++ bodyB m) M' := by
  unfold rightM at hr
  rw [if_neg (by omega), if_pos hk] at hr
  obtain ⟨gb, hgb⟩ := nlPut_some hr.1
  obtain ⟨nb, hnb⟩ := nlPut_some hr.2.1
  have lgb := (nlPut_len hgb).2
  have lnb := (nlPut_len hnb).2
  obtain ⟨z1, z2, z3, z4, z5⟩ := hz
  obtain ⟨u1, u2, u3, u4, u5, u6⟩ := hg
  have hpM := h.at'.lt
  have hvM := h.own.sl.blks
  have hnn := hi.new.lnX
  have hsn := hi.new.isSl
  (refine CallA.of_body Try.func66 rfl (by rfl) ?_; simp only [Try.ntmps66, List.length_cons, List.length_nil, List.replicate, List.cons_append, List.nil_append, Nat.reduceSub, Nat.reduceAdd])
  (repeat (first | refine st ?_ | refine σa ?_ | (refine σb ?_; simp (disch := omega) only [push_cast, ↓reduceIte, reduceCtorEq, ν1, ν2, ν3, ν4, ν5, ζ1, ζ2, ζ3, ζ4, ζ5, mvL_ld, buildE, memE, boxE])))
  have P0 := Fr.push M (.box (mvL m g a c nw d))
  have B0 := At.push M (.box (mvL m g a c nw d))
  generalize hM0 : M ++ [Blk.box (mvL m g a c nw d)] = M0 at *
  have hlen0 : M0.length = M.length + 1 := by rw [← hM0]; simp
  refine (nlput_spec g m.gone M0 (hi.gone.keep P0 (by simp)) u3 (by omega)).mono ?_
  rintro r M1 ⟨f1, hr1⟩
  obtain ⟨w1, rfl, n1⟩ : ∃ w, r = .tuple ⟨[w, .int .i64 0]⟩ ∧ New M0 M1 w 1 (ints .u8 gb) := by
    rcases hr1 with ⟨bs', w, e1, e2, e3⟩ | ⟨e, _⟩
    · rw [hgb] at e1; cases e1; exact ⟨w, e2, e3⟩
    · rw [hgb] at e; cases e
  have B1 := B0.keep f1 (by simp)
  (repeat (first | refine st ?_ | refine σa ?_ | (refine σb ?_; simp (disch := omega) only [push_cast, ↓reduceIte, reduceCtorEq, ν1, ν2, ν3, ν4, ν5, ζ1, ζ2, ζ3, ζ4, ζ5, B1.ld, mvL_ld, buildE])))
  refine (nlput_spec nw m.new M1 ((hi.new.keep P0 (by simp)).keep f1 (by simp)) u4 (by omega)).mono ?_
  rintro r M2 ⟨f2, hr2⟩
  obtain ⟨w2, rfl, n2⟩ : ∃ w, r = .tuple ⟨[w, .int .i64 0]⟩ ∧ New M1 M2 w 1 (ints .u8 nb) := by
    rcases hr2 with ⟨bs', w, e1, e2, e3⟩ | ⟨e, _⟩
    · rw [hnb] at e1; cases e1; exact ⟨w, e2, e3⟩
    · rw [hnb] at e; cases e
  have B2 := B1.keep f2 (by simp)
  have n1' := n1.keep f2 (by simp)
  have F2 := (P0.tr f1).tr f2
  have hsn2 := hi.new.isSl
  (repeat (first | refine st ?_ | refine σa ?_ | (refine σb ?_; simp (disch := omega) only [push_cast, ↓reduceIte, reduceCtorEq, ν1, ν2, ν3, ν4, ν5, ζ1, ζ2, ζ3, ζ4, ζ5, B2.ld, hsn, hnn, mvL_ld, buildE])))
  refine AW.joinF [8, 25, 26, 27, 28, 29, 30] (fun q M' => Fr M2 M' [] ∧ New M2 M' (q 8) 1 (ints .u8 (attrsB m))) ?_ ?_
  · by_cases hne : m.new = []
    · have d : decide ((m.new.length : Int) > 0) = false := decide_eq_false (by rw [hne]; simp)
      have ea : attrsB m = [] := by unfold attrsB; rw [if_pos hne]
      (repeat (first | refine st ?_ | refine σa ?_ | (refine σb ?_; simp (disch := omega) only [push_cast, ↓reduceIte, reduceCtorEq, ν1, ν2, ν3, ν4, ν5, ζ1, ζ2, ζ3, ζ4, ζ5, d])))
      exact ⟨rfl, Fr.refl _, by rw [ea]; exact New.nil _ (by omega)⟩
    · have hpos := List.length_pos_iff.2 hne
      have d : decide ((m.new.length : Int) > 0) = true := decide_eq_true (by omega)
      have ea : attrsB m = putP m.attrs := by unfold attrsB; rw [if_neg hne]
      have hrp : rightP m.attrs := by rcases hr.2.2 with h | h; exact absurd h hne; exact h
      (repeat (first | refine st ?_ | refine σa ?_ | (refine σb ?_; simp (disch := omega) only [push_cast, ↓reduceIte, reduceCtorEq, ν1, ν2, ν3, ν4, ν5, ζ1, ζ2, ζ3, ζ4, ζ5, d, B2.ld, mvL_ld, buildE])))
      refine (put_spec m.attrs a c M2 (hi.path.keep F2 (by simp)) (hi.comms.keep F2 (by simp)) u5 (by omega) (by omega)).mono ?_
      rintro r M3 ⟨f3, hr3⟩
      obtain ⟨w3, rfl, n3⟩ : ∃ w, r = .tuple ⟨[w, .int .i64 0]⟩ ∧ New M2 M3 w 1 (ints .u8 (putP m.attrs)) := by
        rcases hr3 with ⟨_, w, e2, e3⟩ | ⟨e, _⟩
        · exact ⟨w, e2, e3⟩
        · exact absurd hrp e
      (repeat (first | refine st ?_ | refine σa ?_ | (refine σb ?_; simp (disch := omega) only [push_cast, ↓reduceIte, reduceCtorEq, ν1, ν2, ν3, ν4, ν5, ζ1, ζ2, ζ3, ζ4, ζ5])))
      exact ⟨rfl, f3, by rw [ea]; exact n3⟩
  · rintro q M3 ⟨f3, n3⟩
    obtain ⟨w3, hw3⟩ : ∃ w3, q 8 = w3 := ⟨_, rfl⟩
    rw [hw3] at n3
    simp (disch := omega) only [push_cast, ↓reduceIte, reduceCtorEq, Nat.reduceAdd, Nat.reduceMul, Nat.reduceLeDiff, Nat.reduceLT, Nat.reduceSub, Int.reduceNe, Int.reduceEq, Int.reduceLE, Int.reduceLT, Int.reduceToNat, hw3]
    have F3 := F2.tr f3
    have n1a := n1'.keep f3 (by simp)
    have n2a := n2.keep f3 (by simp)
    have s1 := n1a.sl.isSl
    have l1 := n1a.sl.lnI
    have s3 := n3.sl.isSl
    have l3 := n3.sl.lnI
    (repeat (first | refine st ?_ | refine σa ?_ | (refine σb ?_; simp (disch := omega) only [push_cast, ↓reduceIte, reduceCtorEq, ν1, ν2, ν3, ν4, ν5, ζ1, ζ2, ζ3, ζ4, ζ5, s1, l1])))
    have A3 := h.keep F3 (by simp)
    have la : (attrsB m).length ≤ 3000 := by
      unfold attrsB
      split
      · simp
      · rename_i hne
        have hrp : rightP m.attrs := by rcases hr.2.2 with h | h; exact absurd h hne; exact h
        exact (putP_bytes hrp u5).2
    have sep : ∀ (w : Value), (∀ b ∈ blkOf w, M.length ≤ b) → ∀ b ∈ blkOf w, b ∉ p :: blkOf v := fun w hw b hb hc => by
      have h1 := hw b hb
      rcases List.mem_cons.1 hc with h2 | h2
      · omega
      · have := hvM b h2; omega
    have lM2 : M0.length ≤ M1.length ∧ M1.length ≤ M2.length := ⟨f1.1, f2.1⟩
    have k1 := sep w1 (fun b hb => by have := n1.blk b hb; omega)
    have k2 := sep w2 (fun b hb => by have := n2.blk b hb; omega)
    have k3 := sep w3 (fun b hb => by have := n3.blk b hb; omega)
    rw [wm_u16]
    refine (wtwo_spec p v bs ((gb.length : Int) % 65536) M3 A3 (by omega) (by omega)).mono ?_
    rintro r M4 ⟨rfl, F4, v4, A4, N4⟩
    rw [twoB_wrap] at A4 N4
    (repeat (first | refine st ?_ | refine σa ?_ | (refine σb ?_; simp (disch := omega) only [push_cast, ↓reduceIte, reduceCtorEq, ν1, ν2, ν3, ν4, ν5, ζ1, ζ2, ζ3, ζ4, ζ5])))
    refine (woct_spec p v4 _ w1 gb M4 A4 (n1a.sl.keep F4 k1) (by simp [twoB]; omega)).mono ?_
    rintro r M5 ⟨rfl, W5⟩
    obtain ⟨F5, v5, A5, N5⟩ := WrS.tr F4 N4 W5
    have l3' := l3
    have sa := (n3.sl.keep F5 k3).isSl
    (repeat (first | refine st ?_ | refine σa ?_ | (refine σb ?_; simp (disch := omega) only [push_cast, ↓reduceIte, reduceCtorEq, ν1, ν2, ν3, ν4, ν5, ζ1, ζ2, ζ3, ζ4, ζ5, s3, l3])))
    rw [wm_u16]
    refine (wtwo_spec p v5 _ (((attrsB m).length : Int) % 65536) M5 A5 (by omega) (by simp [twoB]; omega)).mono ?_
    rintro r M6 ⟨rfl, W6⟩
    rw [twoB_wrap] at W6
    obtain ⟨F6, v6, A6, N6⟩ := WrS.tr F5 N5 W6
    (repeat (first | refine st ?_ | refine σa ?_ | (refine σb ?_; simp (disch := omega) only [push_cast, ↓reduceIte, reduceCtorEq, ν1, ν2, ν3, ν4, ν5, ζ1, ζ2, ζ3, ζ4, ζ5])))
    refine (woct_spec p v6 _ w3 (attrsB m) M6 A6 (n3.sl.keep F6 k3) (by simp [twoB]; omega)).mono ?_
    rintro r M7 ⟨rfl, W7⟩
    obtain ⟨F7, v7, A7, N7⟩ := WrS.tr F6 N6 W7
    (repeat (first | refine st ?_ | refine σa ?_ | (refine σb ?_; simp (disch := omega) only [push_cast, ↓reduceIte, reduceCtorEq, ν1, ν2, ν3, ν4, ν5, ζ1, ζ2, ζ3, ζ4, ζ5])))
    refine (woct_spec p v7 _ w2 nb M7 A7 (n2a.sl.keep F7 k2) (by simp [twoB]; omega)).mono ?_
    rintro r M8 ⟨rfl, W8⟩
    have W := (WrS.tr F7 N7 W8).pre F3
    (repeat (first | refine st ?_ | refine σa ?_ | (refine σb ?_; simp (disch := omega) only [push_cast, ↓reduceIte, reduceCtorEq, ν1, ν2, ν3, ν4, ν5, ζ1, ζ2, ζ3, ζ4, ζ5])))
    ((first | refine retA.ret (by rfl) ?_ | refine retA.normal (by rfl) ?_); simp (disch := omega) only [push_cast, ↓reduceIte, reduceCtorEq, Nat.reduceAdd, Nat.reduceMul, Nat.reduceLeDiff, Nat.reduceLT, Nat.reduceSub, Int.reduceNe, Int.reduceEq, Int.reduceLE, Int.reduceLT, Int.reduceToNat])
    have e : bodyB m = twoB gb.length ++ gb ++ twoB (attrsB m).length ++ attrsB m ++ nb := by
      unfold bodyB; rw [if_neg (by omega), if_pos hk, hgb, hnb]; rfl
    rw [e]
    simp only [List.append_assoc] at W ⊢
    exact W

end Go.Proofs.Ytbdejnnbpdgjlaa.Ax

namespace Go.Proofs.Ytbdejnnbpdgjlaa.Ax
open Go Go.RowKit
set_option linter.unusedVariables false
set_option linter.unusedSimpArgs false
set_option maxRecDepth 100000
set_option maxHeartbeats 20000000
/-! what is read is right; faults stay; codes -/
def bytesL (b : List Int) : Prop := ∀ x ∈ b, 0 ≤ x ∧ x ≤ 255
theorem bytesL.drop {b : List Int} (h : bytesL b) (n : Nat) : bytesL (b.drop n) := fun x hx => h x (List.mem_of_mem_drop hx)
theorem bytesL.take {b : List Int} (h : bytesL b) (n : Nat) : bytesL (b.take n) := fun x hx => h x (List.mem_of_mem_take hx)
theorem pairAt_rng {b : List Int} (h : bytesL b) (i : Nat) : 0 ≤ pairAt b i ∧ pairAt b i ≤ 65535 := by
  have h0 := getD_byte h i
  have h1 := getD_byte h (i + 1)
  unfold isByte at h0 h1
  unfold pairAt
  omega
theorem capP_u32 : ∀ {f : Nat} {v : List Int} {a : Int} {has : Bool} {r : Int × Bool}, bytesL v → u32 a → capP f v a has = some r → u32 r.1
  | 0, _, _, _, _, _, _, h => by cases h
  | f + 1, v, a, has, r, hb, ha, h => by
    unfold capP at h
    split at h
    · cases h; exact ha
    · split at h
      · cases h
      · refine capP_u32 (hb.drop _) ?_ h
        split
        · exact wordAt_u32 hb 2
        · exact ha
theorem parP_u32 : ∀ {f : Nat} {v : List Int} {a : Int} {has : Bool} {r : Int × Bool}, bytesL v → u32 a → parP f v a has = .inr r → u32 r.1
  | 0, _, _, _, _, _, _, h => by cases h
  | f + 1, v, a, has, r, hb, ha, h => by
    unfold parP at h
    split at h
    · cases h; exact ha
    · split at h
      · cases h
      · split at h
        · cases h
        · split at h
          · cases h
          · rename_i a' has' hc
            exact parP_u32 (hb.drop _) (capP_u32 ((hb.drop 2).take _) ha hc) h
theorem parP_code : ∀ {f : Nat} {v : List Int} {a : Int} {has : Bool} {s : Int}, parP f v a has = .inl s → s = 0 ∨ s = 4
  | 0, _, _, _, _, h => by cases h; exact .inl rfl
  | f + 1, v, a, has, s, h => by
    unfold parP at h
    split at h
    · cases h
    · split at h
      · cases h; exact .inl rfl
      · split at h
        · cases h; exact .inr rfl
        · split at h
          · cases h; exact .inl rfl
          · exact parP_code h
/-- What an Open is. -/
theorem openP_spec {b : List Int} (hb : bytesL b) : ((openP b).2 = (0, 0) ∧ (openP b).1.kind = 1 ∧ rightM (openP b).1 ∧ goodM (openP b).1 ∧ ownM (openP b).1 = (openP b).1) ∨
    ((openP b).2.1 = 2 ∧ ((openP b).2.2 = 0 ∨ (openP b).2.2 = 1 ∨ (openP b).2.2 = 2 ∨ (openP b).2.2 = 3 ∨ (openP b).2.2 = 4 ∨ (openP b).2.2 = 6 ∨ (openP b).2.2 = 7)) := by
  unfold openP
  split
  · exact .inr ⟨rfl, by simp⟩
  split
  · exact .inr ⟨rfl, by simp⟩
  split
  · rename_i s hs
    refine .inr ⟨rfl, ?_⟩
    rcases parP_code hs with rfl | rfl <;> simp
  · rename_i a has hs
    split
    · exact .inr ⟨rfl, by simp⟩
    split
    · exact .inr ⟨rfl, by simp⟩
    split
    · exact .inr ⟨rfl, by simp⟩
    split
    · exact .inr ⟨rfl, by simp⟩
    · rename_i h1 h2 h3 h4
      have ha := parP_u32 (hb.drop 10) (show u32 0 by unfold u32; omega) hs
      have hp := pairAt_rng hb 3
      refine .inl ⟨rfl, rfl, ?_, ?_, ?_⟩
      · unfold rightM
        rw [if_pos rfl]
        exact ⟨fun e => h2 (.inl e), h4, by show pairAt b 3 = 0 ∨ (3 ≤ pairAt b 3 ∧ pairAt b 3 ≤ 65535); omega⟩
      · refine ⟨ha, wordAt_u32 hb 5, by simp [MV.zero], by simp [MV.zero], ?_, by simp [MV.zero]⟩
        exact partP_zero.2.2.2.2.2.2.2.2.2
      · unfold ownM; rw [if_pos rfl]
theorem rd_code {need : Bool} : ∀ {f : Nat} {xs : List Int} {met : Int → Bool} {a : AV}, (readP need f xs met a).2 = 0 ∨ (readP need f xs met a).2 = 1 ∨ (readP need f xs met a).2 = 2 ∨ (readP need f xs met a).2 = 3 ∨ (readP need f xs met a).2 = 4 ∨ (readP need f xs met a).2 = 5 ∨ (readP need f xs met a).2 = 6 ∨ (readP need f xs met a).2 = 8 ∨ (readP need f xs met a).2 = 9 ∨ (readP need f xs met a).2 = 11
  | 0, _, _, _ => .inl rfl
  | f + 1, xs, met, a => by
    by_cases hx : xs = []
    · subst hx
      rw [readP_nil]
      split
      · simp
      · simp
    · rw [readP_step _ _ _ _ _ hx]
      split
      · simp
      · split
        · exact rd_code
        · unfold stepE takeP
          repeat' split
          all_goals simp
/-- What an Update is. -/
theorem updateP_spec {b : List Int} (hb : bytesL b) : ((updateP b).2 = (0, 0) ∧ (updateP b).1.kind = 2 ∧ rightM (updateP b).1 ∧ goodM (updateP b).1) ∨
    ((updateP b).2.1 = 3 ∧ ((updateP b).2.2 = 1 ∨ (updateP b).2.2 = 2 ∨ (updateP b).2.2 = 3 ∨ (updateP b).2.2 = 4 ∨ (updateP b).2.2 = 5 ∨ (updateP b).2.2 = 6 ∨ (updateP b).2.2 = 8 ∨ (updateP b).2.2 = 9 ∨ (updateP b).2.2 = 10 ∨ (updateP b).2.2 = 11)) := by
  unfold updateP
  split
  · exact .inr ⟨rfl, by simp⟩
  split
  · exact .inr ⟨rfl, by simp⟩
  split
  · rename_i h
    refine .inr ⟨rfl, ?_⟩
    have := rd_code (need := decide ((nlR (b.drop (4 + updG b + updA b))).1 ≠ [])) (f := ((b.drop (4 + updG b)).take (updA b)).length + 1) (xs := (b.drop (4 + updG b)).take (updA b)) (met := fun _ => false) (a := AV.zero)
    unfold rdP at h ⊢
    simp only at h ⊢
    omega
  · rename_i h1 h2 h
    have h' : (rdP (decide ((nlR (b.drop (4 + updG b + updA b))).1 ≠ [])) ((b.drop (4 + updG b)).take (updA b))).2 = 0 := by
      by_cases e : (rdP (decide ((nlR (b.drop (4 + updG b + updA b))).1 ≠ [])) ((b.drop (4 + updG b)).take (updA b))).2 = 0
      · exact e
      · exact absurd e h
    refine .inl ⟨rfl, rfl, ?_, ?_⟩
    · unfold rightM
      rw [if_neg (by simp), if_pos rfl]
      refine ⟨fun p hp => (nlRead_right ((hb.drop 2).take _) p hp).1, fun p hp => (nlRead_right (hb.drop _) p hp).1, ?_⟩
      by_cases hn : (nlR (b.drop (4 + updG b + updA b))).1 = []
      · exact .inl hn
      · refine .inr ?_
        rw [decide_eq_true hn] at h' ⊢
        exact (rd_right ((hb.drop _).take _) h').1
    · have hrd : ∀ need : Bool, goodAV (rdP need ((b.drop (4 + updG b)).take (updA b))).1 := fun need => by
        by_cases e : (rdP need ((b.drop (4 + updG b)).take (updA b))).2 = 0
        · unfold rdP at *
          obtain ⟨ks, r1, r2⟩ := rd_of (by omega) e
          exact (r1.part ((hb.drop _).take _) partP_zero).2.2.2.2.2.2.2.2.2
        · rw [rd_wrong e]; exact partP_zero.2.2.2.2.2.2.2.2.2
      exact ⟨by unfold u32; simp [MV.zero], by unfold u32; simp [MV.zero], fun p hp => (nlRead_right ((hb.drop 2).take _) p hp).2, fun p hp => (nlRead_right (hb.drop _) p hp).2, hrd _, by simp [MV.zero]⟩
/-- A message that was read. -/
theorem bodyP_spec {b : List Int} {k : Int} (hk : 1 ≤ k ∧ k ≤ 4) (hb : bytesL b) : ((bodyP k b).2 = (0, 0) ∧ (bodyP k b).1.kind = k ∧ rightM (bodyP k b).1 ∧ goodM (bodyP k b).1) ∨
    ((bodyP k b).2.1 = 2 ∧ ((bodyP k b).2.2 = 0 ∨ (bodyP k b).2.2 = 1 ∨ (bodyP k b).2.2 = 2 ∨ (bodyP k b).2.2 = 3 ∨ (bodyP k b).2.2 = 4 ∨ (bodyP k b).2.2 = 6 ∨ (bodyP k b).2.2 = 7)) ∨
    ((bodyP k b).2.1 = 3 ∧ ((bodyP k b).2.2 = 1 ∨ (bodyP k b).2.2 = 2 ∨ (bodyP k b).2.2 = 3 ∨ (bodyP k b).2.2 = 4 ∨ (bodyP k b).2.2 = 5 ∨ (bodyP k b).2.2 = 6 ∨ (bodyP k b).2.2 = 8 ∨ (bodyP k b).2.2 = 9 ∨ (bodyP k b).2.2 = 10 ∨ (bodyP k b).2.2 = 11)) := by
  unfold bodyP
  have gz : goodAV AV.zero := partP_zero.2.2.2.2.2.2.2.2.2
  split
  · rename_i e
    rcases openP_spec hb with ⟨h1, h2, h3, h4, _⟩ | h
    · exact .inl ⟨h1, by rw [h2, e], h3, h4⟩
    · exact .inr (.inl h)
  · split
    · rename_i e
      rcases updateP_spec hb with ⟨h1, h2, h3, h4⟩ | h
      · exact .inl ⟨h1, by rw [h2, e], h3, h4⟩
      · exact .inr (.inr h)
    · split
      · rename_i e
        have b0 := getD_byte hb 0
        have b1 := getD_byte hb 1
        refine .inl ⟨rfl, e.symm, ?_, ?_⟩
        · unfold rightM
          rw [if_neg (by simp), if_neg (by simp), if_pos rfl]
          exact ⟨b0.1, b0.2, b1.1, b1.2⟩
        · exact ⟨by unfold u32; simp [MV.zero], by unfold u32; simp [MV.zero], by simp [MV.zero], by simp [MV.zero], gz, hb.drop 2⟩
      · refine .inl ⟨rfl, by show (4 : Int) = k; omega, ?_, ?_⟩
        · unfold rightM
          rw [if_neg (by simp), if_neg (by simp), if_neg (by simp)]; trivial
        · exact ⟨by unfold u32; simp [MV.zero], by unfold u32; simp [MV.zero], by simp [MV.zero], by simp [MV.zero], gz, by simp [MV.zero]⟩
theorem headF_cases (b : List Int) : headF b = (1, 2) ∨ headF b = (1, 3) ∨ (headF b = (0, 0) ∧ 19 ≤ pairAt b 16 ∧ pairAt b 16 ≤ 4096 ∧ 1 ≤ b.getD 18 0 ∧ b.getD 18 0 ≤ 4 ∧ leastP (b.getD 18 0) ≤ pairAt b 16 ∧ (b.getD 18 0 = 4 → pairAt b 16 = 19)) := by
  unfold headF
  split
  · exact .inl rfl
  split
  · exact .inr (.inl rfl)
  split
  · exact .inl rfl
  · refine .inr (.inr ⟨rfl, by omega, by omega, by omega, by omega, by omega, by omega⟩)
/-- What reading bytes may be. -/
theorem readM_cases {b : List Int} (hb : bytesL b) :
    (readM b = (MV.zero, 0, (0, 0))) ∨
    (∃ m, readM b = (m, pairAt b 16, (0, 0)) ∧ 19 ≤ pairAt b 16 ∧ pairAt b 16 ≤ b.length ∧ pairAt b 16 ≤ 4096 ∧ 1 ≤ m.kind ∧ m.kind ≤ 4 ∧ rightM m ∧ goodM m) ∨
    (∃ f, readM b = (MV.zero, 0, f) ∧ f ≠ (0, 0) ∧ ((f.1 = 1 ∧ (f.2 = 1 ∨ f.2 = 2 ∨ f.2 = 3)) ∨ (f.1 = 2 ∧ (f.2 = 0 ∨ f.2 = 1 ∨ f.2 = 2 ∨ f.2 = 3 ∨ f.2 = 4 ∨ f.2 = 6 ∨ f.2 = 7)) ∨
      (f.1 = 3 ∧ (f.2 = 1 ∨ f.2 = 2 ∨ f.2 = 3 ∨ f.2 = 4 ∨ f.2 = 5 ∨ f.2 = 6 ∨ f.2 = 8 ∨ f.2 = 9 ∨ f.2 = 10 ∨ f.2 = 11))) ∧ ∀ ys, readM (b ++ ys) = (MV.zero, 0, f)) := by
  by_cases c1 : ∃ x ∈ b.take 16, x ≠ 255
  · refine .inr (.inr ⟨(1, 1), by unfold readM; rw [if_pos c1], by simp, .inl ⟨rfl, .inl rfl⟩, fun ys => ?_⟩)
    unfold readM
    rw [if_pos]
    obtain ⟨x, hx, hne⟩ := c1
    refine ⟨x, ?_, hne⟩
    rw [List.take_append]
    exact List.mem_append_left _ hx
  by_cases c2 : b.length < 19
  · exact .inl (by unfold readM; rw [if_neg c1, if_pos c2])
  have g16 : ∀ ys, pairAt (b ++ ys) 16 = pairAt b 16 := fun ys => pairAt_app (by omega)
  have g18 : ∀ ys, (b ++ ys).getD 18 0 = b.getD 18 0 := fun ys => getD_app (by omega)
  have t16 : ∀ ys, (b ++ ys).take 16 = b.take 16 := fun ys => by rw [List.take_append_of_le_length (by omega)]
  have hh : ∀ ys, headF (b ++ ys) = headF b := fun ys => by unfold headF; rw [g16, g18]
  have l19 : ∀ ys, ¬ (b ++ ys).length < 19 := fun ys => by rw [List.length_append]; omega
  by_cases c3 : headF b = (0, 0)
  rotate_left
  · have hf : readM b = (MV.zero, 0, headF b) ∧ ∀ ys, readM (b ++ ys) = (MV.zero, 0, headF b) := by
      refine ⟨by unfold readM; rw [if_neg c1, if_neg c2, if_pos c3], fun ys => ?_⟩
      unfold readM; rw [t16, if_neg c1, if_neg (l19 ys), hh, if_pos c3]
    refine .inr (.inr ⟨headF b, hf.1, c3, ?_, hf.2⟩)
    rcases headF_cases b with h | h | h
    · rw [h]; simp
    · rw [h]; simp
    · exact absurd h.1 c3
  obtain ⟨q1, q2, q3, q4, q5, q6⟩ : 19 ≤ pairAt b 16 ∧ pairAt b 16 ≤ 4096 ∧ 1 ≤ b.getD 18 0 ∧ b.getD 18 0 ≤ 4 ∧ leastP (b.getD 18 0) ≤ pairAt b 16 ∧ (b.getD 18 0 = 4 → pairAt b 16 = 19) := by
    rcases headF_cases b with h | h | h
    · rw [h] at c3; cases c3
    · rw [h] at c3; cases c3
    · exact h.2
  by_cases c4 : (b.length : Int) < pairAt b 16
  · exact .inl (by unfold readM; rw [if_neg c1, if_neg c2, if_neg (by simp [c3]), if_pos c4])
  have d19 : ∀ ys, ((b ++ ys).drop 19).take ((pairAt b 16).toNat - 19) = (b.drop 19).take ((pairAt b 16).toNat - 19) := fun ys => by
    rw [List.drop_append_of_le_length (by omega), List.take_append_of_le_length (by rw [List.length_drop]; omega)]
  have hbb : bytesL ((b.drop 19).take ((pairAt b 16).toNat - 19)) := (hb.drop 19).take _
  have hbs := bodyP_spec (k := b.getD 18 0) ⟨q3, q4⟩ hbb
  by_cases c5 : (bodyP (b.getD 18 0) ((b.drop 19).take ((pairAt b 16).toNat - 19))).2 = (0, 0)
  · refine .inr (.inl ⟨(bodyP (b.getD 18 0) ((b.drop 19).take ((pairAt b 16).toNat - 19))).1, ?_, q1, by omega, q2, ?_⟩)
    · unfold readM; rw [if_neg c1, if_neg c2, if_neg (by simp [c3]), if_neg c4, if_pos c5]
    · rcases hbs with ⟨_, h2, h3, h4⟩ | ⟨h, _⟩ | ⟨h, _⟩
      · exact ⟨by omega, by omega, h3, h4⟩
      · rw [c5] at h; cases h
      · rw [c5] at h; cases h
  · refine .inr (.inr ⟨(bodyP (b.getD 18 0) ((b.drop 19).take ((pairAt b 16).toNat - 19))).2, ?_, c5, ?_, fun ys => ?_⟩)
    · unfold readM; rw [if_neg c1, if_neg c2, if_neg (by simp [c3]), if_neg c4, if_neg c5]
    · rcases hbs with ⟨h, _⟩ | h | h
      · exact absurd h c5
      · exact .inr (.inl h)
      · exact .inr (.inr h)
    · unfold readM
      rw [t16, if_neg c1, if_neg (l19 ys), hh, if_neg (by simp [c3]), g16, g18, d19, if_neg (by rw [List.length_append]; omega), if_neg c5]

end Go.Proofs.Ytbdejnnbpdgjlaa.Ax
