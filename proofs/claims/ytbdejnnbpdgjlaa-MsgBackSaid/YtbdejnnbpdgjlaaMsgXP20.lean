/- Contracts of functions over the abstract machine. No conditions: lemmas alone. -/
import Derived.Test.YtbdejnnbpdgjlaaMsgXLibD
import Derived.Test.YtbdejnnbpdgjlaaMsgXP0
import Derived.Test.YtbdejnnbpdgjlaaMsgXP19
import Derived.Test.YtbdejnnbpdgjlaaMsgXP11
import Derived.Test.YtbdejnnbpdgjlaaMsgXP18
namespace Go.Proofs.Ytbdejnnbpdgjlaa.Ax
open Go Go.RowKit
open Nat renaming reduceAdd → ν1, reduceMul → ν2, reduceLeDiff → ν3, reduceLT → ν4, reduceSub → ν5
open Int renaming reduceNe → ζ1, reduceEq → ζ2, reduceLE → ζ3, reduceLT → ζ4, reduceToNat → ζ5
set_option linter.unusedVariables false
set_option linter.unusedSimpArgs false
set_option maxRecDepth 100000
set_option maxHeartbeats 20000000
attribute [local irreducible] thenA blockA scopeA retA AL AW AD ADL AH clrK CallA apure aload bload appK ptrK fnK ares szOk planOk okOps
theorem sameP_self (a : AV) : sameP a a = true := by simp [sameP]
theorem take_len {a : AV} {k : Int} {v : List Int} (h1 : a.path.length ≤ 255 ∧ a.comms.length ≤ 255) : (takeP a k v).1.path.length ≤ 255 ∧ (takeP a k v).1.comms.length ≤ 255 := by
  unfold takeP
  split
  · exact h1
  split
  · split <;> exact h1
  split
  · cases hp : pathP v with
    | none => exact h1
    | some l =>
      unfold pathP at hp
      obtain ⟨m, hm1, hm2⟩ := Option.bind_eq_some_iff.1 hp
      split at hm2
      · cases hm2
        rename_i hc
        exact ⟨hc.1, h1.2⟩
      · cases hm2
  split
  · split <;> exact h1
  split
  · exact h1
  split
  · exact h1
  split
  · split
    · exact h1
    · exact ⟨h1.1, by simp only; omega⟩
  exact h1
/-- What is read is short. -/
theorem readP_len {need : Bool} : ∀ {f : Nat} {xs : List Int} {met : Int → Bool} {a : AV}, a.path.length ≤ 255 ∧ a.comms.length ≤ 255 → (readP need f xs met a).1.path.length ≤ 255 ∧ (readP need f xs met a).1.comms.length ≤ 255
  | 0, _, _, _, _ => ⟨Nat.zero_le _, Nat.zero_le _⟩
  | f + 1, xs, met, a, h => by
    by_cases hx : xs = []
    · subst hx
      rw [readP_nil]
      split
      · exact ⟨Nat.zero_le _, Nat.zero_le _⟩
      · exact h
    · rw [readP_step _ _ _ _ _ hx]
      split
      · exact ⟨Nat.zero_le _, Nat.zero_le _⟩
      · split
        · refine readP_len ?_
          unfold stepA
          split
          · exact h
          · exact take_len h
        · exact ⟨Nat.zero_le _, Nat.zero_le _⟩
theorem rd_len {need : Bool} {xs : List Int} (hb : ∀ x ∈ xs, 0 ≤ x ∧ x ≤ 255) : (rdP need xs).1.path.length ≤ 255 ∧ (rdP need xs).1.comms.length ≤ 255 := readP_len ⟨Nat.zero_le _, Nat.zero_le _⟩
theorem Sl.lit (M : Mem) (n : Nat) (xs : List Int) (h : n = xs.length) (hn : n < capLow) : Sl (M ++ [.row true 1 (ints .u8 xs)]) (.slice (some ⟨M.length, 0, none⟩) n n) 1 (ints .u8 xs) := (New.row M (by omega) (by rw [ints_length]; omega) (ints_one _ _) hn).sl
/-- A call of Read. -/
theorem readKn {v : Value} {xs : List Int} {need : Bool} {M : Mem} {A : AV} {e : Int} {K : Value → Mem → Prop} (hv : Sl M v 1 (ints .u8 xs)) (hx : xs.length ≤ 100000) (hb : ∀ x ∈ xs, 0 ≤ x ∧ x ≤ 255) (h : rdP need xs = (A, e))
    (hK : ∀ M' p c, Fr M M' [] → Sl M' p 1 (ints .u32 A.path) → Sl M' c 1 (ints .u32 A.comms) → Value.oneCell' p = true → Value.oneCell' c = true → (∀ b ∈ blkOf p, M.length ≤ b) → (∀ b ∈ blkOf c, M.length ≤ b) → K (.tuple ⟨[.agg ⟨avL A p c⟩, .int .i64 e]⟩) M') : CallA Try.prog 89 [v, .bool need] M K := by
  refine (read_spec v xs need M hv hx hb).mono ?_
  rintro r M' ⟨hF, w, rfl, hA⟩
  have h' : readP need (xs.length + 1) xs (fun _ => false) AV.zero = (A, e) := h
  rw [h'] at hA ⊢
  obtain ⟨p, c, rfl, hp, hc, hpb, hcb⟩ := hA
  exact hK M' p c hF hp hc (isSl_one hp.isSl) (isSl_one hc.isSl) hpb hcb
end Go.Proofs.Ytbdejnnbpdgjlaa.Ax

namespace Go.Proofs.Ytbdejnnbpdgjlaa.Ax
open Go Go.RowKit
open Nat renaming reduceAdd → ν1, reduceMul → ν2, reduceLeDiff → ν3, reduceLT → ν4, reduceSub → ν5
open Int renaming reduceNe → ζ1, reduceEq → ζ2, reduceLE → ζ3, reduceLT → ζ4, reduceToNat → ζ5
set_option linter.unusedVariables false
set_option linter.unusedSimpArgs false
set_option maxRecDepth 100000
set_option maxHeartbeats 20000000
attribute [local irreducible] thenA blockA scopeA retA AL AW AD ADL AH clrK CallA apure aload bload appK ptrK fnK ares szOk planOk okOps
/-- An Update's cells. -/
def mvU (g : Value) (o : Int) (p : Value) (h me pr : Int) (hm hp : Bool) (c nw : Value) : List Value := [.int .i64 2, .int .u32 0, .int .u32 0, .int .i64 0, g, .int .i64 o, p, .int .u32 h, .int .u32 me, .int .u32 pr, .bool hm, .bool hp, c, nw, .int .i64 0, .int .i64 0, .slice none 0 0]
theorem MR.bad {lo : Nat} {M : Mem} {P : MV × (Int × Int)} {c1 c2 : Int} (h : P.2 = (c1, c2)) (hne : (c1, c2) ≠ (0, 0)) (g : Value) (o : Int) (p : Value) (hh me pr : Int) (hm hp : Bool) (c nw : Value) (h1 : isSl g = true) (h2 : isSl p = true) (h3 : isSl c = true) (h4 : isSl nw = true) : MR lo M (.tuple ⟨[.agg ⟨mvU g o p hh me pr hm hp c nw⟩, .agg ⟨[.int .i64 c1, .int .i64 c2]⟩]⟩) P :=
  ⟨{ MV.zero with kind := 2, attrs := ⟨o, [], hh, me, pr, hm, hp, []⟩ }, g, p, c, nw, .slice none 0 0, by rw [h]; rfl, ⟨h1, h2, h3, h4, rfl⟩, fun e => absurd (h.symm.trans e) hne⟩
theorem mupd_spec (v : Value) (b : List Int) (M : Mem) (hv : Sl M v 1 (ints .u8 b)) (hb : ∀ x ∈ b, 0 ≤ x ∧ x ≤ 255) (hl : b.length ≤ 5000) : CallA Try.prog 54 [v] M fun r M' => Fr M M' [] ∧ MR M.length M' r (updateP b) := by
  have cv := isSl_cl hv.isSl
  have ov := isSl_one hv.isSl
  simp only [Value.oneCell'] at ov
  (refine CallA.of_body Try.func54 rfl (by rfl) ?_; simp only [Try.ntmps54, List.length_cons, List.length_nil, List.replicate, List.cons_append, List.nil_append, Nat.reduceSub, Nat.reduceAdd])
  (repeat (first | refine st ?_ | refine σa ?_ | (refine σb ?_; simp (disch := omega) only [push_cast, ↓reduceIte, reduceCtorEq, ν1, ν2, ν3, ν4, ν5, ζ1, ζ2, ζ3, ζ4, ζ5, cv, ov, buildE, memE, boxE])))
  simp only [List.length_append, List.length_cons, List.length_nil, Nat.zero_add, Nat.add_assoc, Nat.reduceAdd]
  have F0 := ((Fr.push M (.box (mv0 2 0 0 0))).tr (Fr.push _ (.box [.int .i64 0, .int .i64 0]))).tr (Fr.push _ (.box [v, .bool false]))
  have A0 := ((At.push M (.box (mv0 2 0 0 0))).keep (Fr.push _ (.box [.int .i64 0, .int .i64 0])) (by simp)).keep (Fr.push _ (.box [v, .bool false])) (by simp)
  have Q0 := (At.push (M ++ [.box (mv0 2 0 0 0)]) (.box [.int .i64 0, .int .i64 0])).keep (Fr.push _ (.box [v, .bool false])) (by simp)
  have R0 := At.push (M ++ [.box (mv0 2 0 0 0)] ++ [.box [.int .i64 0, .int .i64 0]]) (.box [v, .bool false])
  simp only [List.length_append, List.length_cons, List.length_nil, Nat.zero_add, Nat.add_assoc, Nat.reduceAdd] at Q0 R0
  unfold mv0 at F0 A0 Q0 R0
  generalize M ++ [Blk.box [.int .i64 2, .int .u32 0, .int .u32 0, .int .i64 0, .slice none 0 0, .int .i64 0, .slice none 0 0, .int .u32 0, .int .u32 0, .int .u32 0, .bool false, .bool false, .slice none 0 0, .slice none 0 0, .int .i64 0, .int .i64 0, .slice none 0 0]] ++ [Blk.box [.int .i64 0, .int .i64 0]] ++ [Blk.box [v, .bool false]] = M0 at *
  obtain ⟨s, hs⟩ : ∃ s, s = M.length := ⟨_, rfl⟩
  rw [← hs] at A0 Q0 R0 ⊢
  have hvb := hv.blks
  have r0 : RdA M0 (s + 2) s b false := ⟨v, R0, hv.keep F0 (by simp), by omega, fun c h => by have := hvb _ h; omega⟩
  have hbd : ∀ n, ∀ x ∈ b.drop n, 0 ≤ x ∧ x ≤ 255 := fun n x hx => hb x (List.mem_of_mem_drop hx)
  have hM0 : s + 3 ≤ M0.length := R0.lt
  refine (rtwo_spec (s + 2) s b false M0 r0 hb).mono ?_
  rintro r M1 ⟨f1, r1, rfl⟩
  have A1 := A0.keep f1 (by simp)
  have Q1 := Q0.keep f1 (by simp)
  have pk := pairAt_rng (takeL_byte (n := 2) hb) 0
  obtain ⟨k, hk⟩ : ∃ k : Nat, pairAt (takeL 2 b) 0 = k := ⟨(pairAt (takeL 2 b) 0).toNat, by omega⟩
  rw [hk] at pk ⊢
  (repeat (first | refine st ?_ | refine σa ?_ | (refine σb ?_; simp (disch := omega) only [push_cast, ↓reduceIte, reduceCtorEq, ν1, ν2, ν3, ν4, ν5, ζ1, ζ2, ζ3, ζ4, ζ5])))
  refine (rtake_spec (s + 2) s k _ _ M1 r1 (by omega)).mono ?_
  rintro vg M2 ⟨f2, r2, sg, bg⟩
  have A2 := A1.keep f2 (by simp)
  have Q2 := Q1.keep f2 (by simp)
  rw [List.drop_drop] at r2
  (repeat (first | refine st ?_ | refine σa ?_ | (refine σb ?_; simp (disch := omega) only [push_cast, ↓reduceIte, reduceCtorEq, ν1, ν2, ν3, ν4, ν5, ζ1, ζ2, ζ3, ζ4, ζ5])))
  refine (rtwo_spec (s + 2) s _ _ M2 r2 (hbd _)).mono ?_
  rintro r M3 ⟨f3, r3, rfl⟩
  have A3 := A2.keep f3 (by simp)
  have Q3 := Q2.keep f3 (by simp)
  have pj := pairAt_rng (takeL_byte (n := 2) (hbd (2 + k))) 0
  obtain ⟨j, hj⟩ : ∃ j : Nat, pairAt (takeL 2 (b.drop (2 + k))) 0 = j := ⟨(pairAt (takeL 2 (b.drop (2 + k))) 0).toNat, by omega⟩
  rw [hj] at pj ⊢
  rw [List.drop_drop] at r3
  (repeat (first | refine st ?_ | refine σa ?_ | (refine σb ?_; simp (disch := omega) only [push_cast, ↓reduceIte, reduceCtorEq, ν1, ν2, ν3, ν4, ν5, ζ1, ζ2, ζ3, ζ4, ζ5])))
  refine (rtake_spec (s + 2) s j _ _ M3 r3 (by omega)).mono ?_
  rintro va M4 ⟨f4, r4, sa, ba⟩
  have A4 := A3.keep f4 (by simp)
  have Q4 := Q3.keep f4 (by simp)
  rw [List.drop_drop] at r4
  have F4 : Fr M M4 [] := ((((F0.trans f1).trans f2).trans f3).trans f4).cut (fun c hc hlt => by simp at hc; omega)
  have hS : (false || decide (b.length < 2) || decide ((b.drop 2).length < k) || decide ((b.drop (2 + k)).length < 2) || decide ((b.drop (2 + k + 2)).length < j)) = decide (b.length < 4 + k + j) := by
    rw [Bool.eq_iff_iff]; simp only [List.length_drop, Bool.or_eq_true, decide_eq_true_eq, Bool.false_eq_true, false_or]; omega
  rw [hS] at r4
  have r4' := r4
  obtain ⟨vr, a4, sr, lr, nr⟩ := r4'
  have ek : 2 ≤ b.length → updG b = k := fun h => by
    have := pair_take (b := b) (n := 0) (by omega)
    rw [List.drop_zero] at this
    unfold updG; rw [← this, hk]; exact Int.toNat_natCast k
  have ej : 4 + k ≤ b.length → updA b = j := fun h => by
    have := pair_take (b := b) (n := 2 + k) (by omega)
    unfold updA; rw [ek (by omega), ← this, hj]; exact Int.toNat_natCast j
  by_cases bad : b.length < 4 + k + j
  · have e : (updateP b).2 = (3, 1) := by
      unfold updateP
      rw [if_pos]
      by_cases q : b.length < 2
      · exact .inl (by omega)
      · rw [ek (by omega)]
        by_cases q2 : b.length < 4 + k
        · exact .inl q2
        · rw [ej (by omega)]; exact .inr (by omega)
    rw [decide_eq_true bad] at a4
    (repeat (first | refine st ?_ | refine σa ?_ | (refine σb ?_; simp (disch := omega) only [push_cast, ↓reduceIte, reduceCtorEq, ν1, ν2, ν3, ν4, ν5, ζ1, ζ2, ζ3, ζ4, ζ5, a4.ld, A4.ld, Bool.not_true, Bool.not_false, A4.get, Q4.get, A4.same, Q4.same, List.drop_nil, List.append_nil, boxE, buildE])))
    have Ay := A4.keep (Fr.set M4 (s + 1) (.box [.int .i64 3, .int .i64 1])) (by simp)
    have Qy := Q4.set (.box [.int .i64 3, .int .i64 1])
    ((first | refine retA.ret (by rfl) ?_ | refine retA.normal (by rfl) ?_); simp (disch := omega) only [push_cast, ↓reduceIte, reduceCtorEq, Nat.reduceAdd, Nat.reduceMul, Nat.reduceLeDiff, Nat.reduceLT, Nat.reduceSub, Int.reduceNe, Int.reduceEq, Int.reduceLE, Int.reduceLT, Int.reduceToNat, Ay.ld, Qy.ld, buildE])
    exact ⟨(F4.trans (Fr.set M4 (s + 1) _)).cut (fun c hc hlt => by simp at hc; omega), MR.bad e (by simp) _ _ _ _ _ _ _ _ _ _ rfl rfl rfl rfl⟩
  rw [decide_eq_false bad] at a4
  have eG := ek (by omega)
  have eA := ej (by omega)
  have q1 := f1.1
  have q2 := f2.1
  have q3 := f3.1
  have q4 := f4.1
  have sg4 := (sg.keep f3 (fun c hc => by have := bg c hc; simp; omega)).keep f4 (fun c hc => by have := bg c hc; simp; omega)
  have eg : takeL k (b.drop 2) = (b.drop 2).take (updG b) := by rw [eG]; unfold takeL; rw [if_neg (by rw [List.length_drop]; omega)]
  have ea : takeL j (b.drop (2 + k + 2)) = (b.drop (4 + updG b)).take (updA b) := by
    rw [eG, eA, show 2 + k + 2 = 4 + k by omega]; unfold takeL; rw [if_neg (by rw [List.length_drop]; omega)]
  have en : b.drop (2 + k + 2 + j) = b.drop (4 + updG b + updA b) := by rw [eG, eA]; congr 1; omega
  obtain ⟨G, hG⟩ : ∃ G, G = (b.drop 2).take (updG b) := ⟨_, rfl⟩
  obtain ⟨A, hA⟩ : ∃ A, A = (b.drop (4 + updG b)).take (updA b) := ⟨_, rfl⟩
  obtain ⟨N, hN⟩ : ∃ N, N = b.drop (4 + updG b + updA b) := ⟨_, rfl⟩
  rw [eg, ← hG] at sg4
  rw [ea, ← hA] at sa
  rw [en, ← hN] at sr
  have bG : ∀ x ∈ G, 0 ≤ x ∧ x ≤ 255 := fun x hx => by rw [hG] at hx; exact hbd 2 x (List.mem_of_mem_take hx)
  have bA : ∀ x ∈ A, 0 ≤ x ∧ x ≤ 255 := fun x hx => by rw [hA] at hx; exact hbd _ x (List.mem_of_mem_take hx)
  have bN : ∀ x ∈ N, 0 ≤ x ∧ x ≤ 255 := fun x hx => by rw [hN] at hx; exact hbd _ x hx
  have lG : G.length ≤ 100000 := by rw [hG, List.length_take, List.length_drop]; omega
  have lA : A.length ≤ 100000 := by rw [hA, List.length_take, List.length_drop]; omega
  have lN : N.length ≤ 100000 := by rw [hN, List.length_drop]; omega
  have eU : updateP b = if (nlR G).2 ≠ 0 ∨ (nlR N).2 ≠ 0 then (MV.zero, (3, 10)) else if (rdP (decide ((nlR N).1 ≠ [])) A).2 ≠ 0 then (MV.zero, (3, (rdP (decide ((nlR N).1 ≠ [])) A).2))
      else ({ MV.zero with kind := 2, gone := (nlR G).1, attrs := (rdP (decide ((nlR N).1 ≠ [])) A).1, new := (nlR N).1 }, (0, 0)) := by
    unfold updateP
    rw [if_neg (by rw [eG, eA]; omega), ← hG, ← hA, ← hN]
  (repeat (first | refine st ?_ | refine σa ?_ | (refine σb ?_; simp (disch := omega) only [push_cast, ↓reduceIte, reduceCtorEq, ν1, ν2, ν3, ν4, ν5, ζ1, ζ2, ζ3, ζ4, ζ5, a4.ld, Bool.not_true, Bool.not_false, buildE])))
  refine (nlread_spec vg _ M4 sg4 lG bG).mono ?_
  rintro r M5 ⟨f5, wg, rfl, sw, bw⟩
  have A5 := A4.keep f5 (by simp)
  have Q5 := Q4.keep f5 (by simp)
  have a5 := a4.keep f5 (by simp)
  have sr5 := sr.keep f5 (by simp)
  have sa5 := sa.keep f5 (by simp)
  have F5 := F4.tr f5
  have q5 := f5.1
  obtain ⟨G1, G2, hRG⟩ : ∃ x y, nlR G = (x, y) := ⟨_, _, rfl⟩
  simp only [hRG] at sw eU ⊢
  have cw := isSl_cl sw.isSl
  have ow := isSl_one sw.isSl
  simp only [Value.oneCell'] at ow
  have As := A5.set (.box (mvU wg 0 (.slice none 0 0) 0 0 0 false false (.slice none 0 0) (.slice none 0 0)))
  have fs := Fr.set M5 s (.box (mvU wg 0 (.slice none 0 0) 0 0 0 false false (.slice none 0 0) (.slice none 0 0)))
  have Qs := Q5.keep fs (by simp)
  have asx := a5.keep fs (by simp)
  have srs := sr5.keep fs (fun c hc => by have := nr c hc; simp; omega)
  have sas := sa5.keep fs (fun c hc => by have := ba c hc; simp; omega)
  have sws := sw.keep fs (fun c hc => by have := bw c hc; simp; omega)
  have Fs : Fr M _ [] := (F5.trans fs).cut (fun c hc hlt => by simp at hc; omega)
  have hls : M5.length = (M5.set s (.box (mvU wg 0 (.slice none 0 0) 0 0 0 false false (.slice none 0 0) (.slice none 0 0)))).length := by simp
  unfold mvU at As fs Qs asx srs sas sws Fs hls
  have svr := srs.isSl
  have cvr := isSl_cl svr
  (repeat (first | refine st ?_ | refine σa ?_ | (refine σb ?_; simp (disch := omega) only [push_cast, ↓reduceIte, reduceCtorEq, ν1, ν2, ν3, ν4, ν5, ζ1, ζ2, ζ3, ζ4, ζ5, A5.get, A5.same, cw, ow, asx.ld, svr, cvr, List.drop_nil, List.append_nil, boxE, buildE])))
  generalize M5.set s (Blk.box [.int .i64 2, .int .u32 0, .int .u32 0, .int .i64 0, wg, .int .i64 0, .slice none 0 0, .int .u32 0, .int .u32 0, .int .u32 0, .bool false, .bool false, .slice none 0 0, .slice none 0 0, .int .i64 0, .int .i64 0, .slice none 0 0]) = M6 at *
  refine (nlread_spec vr _ M6 srs lN bN).mono ?_
  rintro r M7 ⟨f7, wn, rfl, sn, bn⟩
  have A7 := As.keep f7 (by simp)
  have Q7 := Qs.keep f7 (by simp)
  have sa7 := sas.keep f7 (by simp)
  have sw7 := sws.keep f7 (by simp)
  have F7 := Fs.tr f7
  have q7 := f7.1
  obtain ⟨N1, N2, hRN⟩ : ∃ x y, nlR N = (x, y) := ⟨_, _, rfl⟩
  simp only [hRN] at sn eU ⊢
  have cn := isSl_cl sn.isSl
  have on := isSl_one sn.isSl
  simp only [Value.oneCell'] at on
  have Au := A7.set (.box (mvU wg 0 (.slice none 0 0) 0 0 0 false false (.slice none 0 0) wn))
  have fu := Fr.set M7 s (.box (mvU wg 0 (.slice none 0 0) 0 0 0 false false (.slice none 0 0) wn))
  have Qu := Q7.keep fu (by simp)
  have sau := sa7.keep fu (fun c hc => by have := ba c hc; simp; omega)
  have swu := sw7.keep fu (fun c hc => by have := bw c hc; simp; omega)
  have snu := sn.keep fu (fun c hc => by have := bn c hc; simp; omega)
  have Fu : Fr M _ [] := (F7.trans fu).cut (fun c hc hlt => by simp at hc; omega)
  have hlu : M7.length = (M7.set s (.box (mvU wg 0 (.slice none 0 0) 0 0 0 false false (.slice none 0 0) wn))).length := by simp
  unfold mvU at Au fu Qu sau swu snu Fu hlu
  by_cases ce : G2 = 0 ∧ N2 = 0
  rotate_left
  · have e : (updateP b).2 = (3, 10) := by rw [eU, if_pos (by omega)]
    have fin : ∀ M8, At M8 s (Blk.box (mvU wg 0 (.slice none 0 0) 0 0 0 false false (.slice none 0 0) wn)) → Fr M M8 [] → (Fr M (M8.set (s + 1) (.box [.int .i64 3, .int .i64 10])) [] ∧ MR s (M8.set (s + 1) (.box [.int .i64 3, .int .i64 10])) (.tuple ⟨[.agg ⟨mvU wg 0 (.slice none 0 0) 0 0 0 false false (.slice none 0 0) wn⟩, .agg ⟨[.int .i64 3, .int .i64 10]⟩]⟩) (updateP b)) := fun M8 _ F8 =>
      ⟨(F8.trans (Fr.set M8 (s + 1) _)).cut (fun c hc hlt => by simp at hc; omega), MR.bad e (by simp) _ _ _ _ _ _ _ _ _ _ sw.isSl rfl rfl sn.isSl⟩
    by_cases c1 : G2 = 0
    · have d1 : decide (G2 = 0) = true := decide_eq_true c1
      have d2 : decide (N2 = 0) = false := decide_eq_false (by omega)
      (repeat (first | refine st ?_ | refine σa ?_ | (refine σb ?_; simp (disch := omega) only [push_cast, ↓reduceIte, reduceCtorEq, ν1, ν2, ν3, ν4, ν5, ζ1, ζ2, ζ3, ζ4, ζ5, A7.get, A7.same, cw, ow, cn, on, d1, d2, List.drop_nil, List.append_nil, Bool.not_true, Bool.not_false, Au.ld, Au.get, Qu.get, Au.same, Qu.same, boxE, buildE])))
      have Ay := Au.keep (Fr.set _ (s + 1) (.box [.int .i64 3, .int .i64 10])) (by simp)
      have Qy := Qu.set (.box [.int .i64 3, .int .i64 10])
      ((first | refine retA.ret (by rfl) ?_ | refine retA.normal (by rfl) ?_); simp (disch := omega) only [push_cast, ↓reduceIte, reduceCtorEq, Nat.reduceAdd, Nat.reduceMul, Nat.reduceLeDiff, Nat.reduceLT, Nat.reduceSub, Int.reduceNe, Int.reduceEq, Int.reduceLE, Int.reduceLT, Int.reduceToNat, Ay.ld, Qy.ld, cw, cn, ow, on, buildE])
      exact fin _ Au Fu
    · have d1 : decide (G2 = 0) = false := decide_eq_false c1
      (repeat (first | refine st ?_ | refine σa ?_ | (refine σb ?_; simp (disch := omega) only [push_cast, ↓reduceIte, reduceCtorEq, ν1, ν2, ν3, ν4, ν5, ζ1, ζ2, ζ3, ζ4, ζ5, A7.get, A7.same, cw, ow, cn, on, d1, List.drop_nil, List.append_nil, Bool.not_true, Bool.not_false, Au.ld, Au.get, Qu.get, Au.same, Qu.same, boxE, buildE])))
      have Ay := Au.keep (Fr.set _ (s + 1) (.box [.int .i64 3, .int .i64 10])) (by simp)
      have Qy := Qu.set (.box [.int .i64 3, .int .i64 10])
      ((first | refine retA.ret (by rfl) ?_ | refine retA.normal (by rfl) ?_); simp (disch := omega) only [push_cast, ↓reduceIte, reduceCtorEq, Nat.reduceAdd, Nat.reduceMul, Nat.reduceLeDiff, Nat.reduceLT, Nat.reduceSub, Int.reduceNe, Int.reduceEq, Int.reduceLE, Int.reduceLT, Int.reduceToNat, Ay.ld, Qy.ld, cw, cn, ow, on, buildE])
      exact fin _ Au Fu
  obtain ⟨c1, c2⟩ := ce
  have d1 : decide (G2 = 0) = true := decide_eq_true c1
  have d2 : decide (N2 = 0) = true := decide_eq_true c2
  obtain ⟨need, hneed⟩ : ∃ need, need = decide (N1 ≠ []) := ⟨_, rfl⟩
  have dN : decide ((N1.length : Int) > 0) = need := by
    rw [hneed]
    cases N1 with
    | nil => simp
    | cons x l => simp
  rw [← hneed, if_neg (by omega)] at eU
  have snn := snu.isSl
  have lnn := snu.lnX
  (repeat (first | refine st ?_ | refine σa ?_ | (refine σb ?_; simp (disch := omega) only [push_cast, ↓reduceIte, reduceCtorEq, ν1, ν2, ν3, ν4, ν5, ζ1, ζ2, ζ3, ζ4, ζ5, A7.get, A7.same, cw, ow, cn, on, d1, d2, snn, lnn, dN, List.drop_nil, List.append_nil, Bool.not_true, Bool.not_false, Au.ld, boxE, buildE])))
  generalize M7.set s (Blk.box [.int .i64 2, .int .u32 0, .int .u32 0, .int .i64 0, wg, .int .i64 0, .slice none 0 0, .int .u32 0, .int .u32 0, .int .u32 0, .bool false, .bool false, .slice none 0 0, wn, .int .i64 0, .int .i64 0, .slice none 0 0]) = M8 at *
  obtain ⟨AT, E, hAE⟩ : ∃ x y, rdP need A = (x, y) := ⟨_, _, rfl⟩
  simp only [hAE] at eU
  refine readKn sau lA bA hAE fun M9 pv cv9 f9 sp sc op oc bp bc => ?_
  simp only [Value.oneCell'] at op oc
  have cp := isSl_cl sp.isSl
  have cc := isSl_cl sc.isSl
  have A9 := Au.keep f9 (by simp)
  have Q9 := Qu.keep f9 (by simp)
  have sw9 := swu.keep f9 (by simp)
  have sn9 := snu.keep f9 (by simp)
  have F9 := Fu.tr f9
  have q9 := f9.1
  have Aw := A9.set (.box (mvU wg AT.origin pv AT.hop AT.med AT.pref AT.hasMed AT.hasPref cv9 wn))
  have fw := Fr.set M9 s (.box (mvU wg AT.origin pv AT.hop AT.med AT.pref AT.hasMed AT.hasPref cv9 wn))
  have Qw := Q9.keep fw (by simp)
  have sww := sw9.keep fw (fun c hc => by have := bw c hc; simp; omega)
  have snw := sn9.keep fw (fun c hc => by have := bn c hc; simp; omega)
  have spw := sp.keep fw (fun c hc => by have := bp c hc; simp; omega)
  have scw := sc.keep fw (fun c hc => by have := bc c hc; simp; omega)
  have Fw : Fr M _ [] := (F9.trans fw).cut (fun c hc hlt => by simp at hc; omega)
  unfold mvU at Aw fw Qw sww snw spw scw Fw
  by_cases cE : E = 0
  rotate_left
  · have dE : decide (E = 0) = false := decide_eq_false cE
    have e : (updateP b).2 = (3, E) := by rw [eU, if_pos cE]
    (repeat (first | refine st ?_ | refine σa ?_ | (refine σb ?_; simp (disch := omega) only [push_cast, ↓reduceIte, reduceCtorEq, ν1, ν2, ν3, ν4, ν5, ζ1, ζ2, ζ3, ζ4, ζ5, A9.get, A9.same, cw, ow, cn, on, cp, cc, op, oc, dE, avL, List.drop_nil, List.append_nil, Bool.not_true, Bool.not_false, Aw.ld, Aw.get, Qw.get, Aw.same, Qw.same, boxE, buildE])))
    have Ay := Aw.keep (Fr.set _ (s + 1) (.box [.int .i64 3, .int .i64 E])) (by simp)
    have Qy := Qw.set (.box [.int .i64 3, .int .i64 E])
    ((first | refine retA.ret (by rfl) ?_ | refine retA.normal (by rfl) ?_); simp (disch := omega) only [push_cast, ↓reduceIte, reduceCtorEq, Nat.reduceAdd, Nat.reduceMul, Nat.reduceLeDiff, Nat.reduceLT, Nat.reduceSub, Int.reduceNe, Int.reduceEq, Int.reduceLE, Int.reduceLT, Int.reduceToNat, Ay.ld, Qy.ld, cw, cn, cp, cc, ow, on, op, oc, buildE])
    exact ⟨(Fw.trans (Fr.set _ (s + 1) _)).cut (fun c hc hlt => by simp at hc; omega), MR.bad e (by simp [cE]) _ _ _ _ _ _ _ _ _ _ sw.isSl sp.isSl sc.isSl sn.isSl⟩
  have dE : decide (E = 0) = true := decide_eq_true cE
  rw [if_neg (by omega)] at eU
  (repeat (first | refine st ?_ | refine σa ?_ | (refine σb ?_; simp (disch := omega) only [push_cast, ↓reduceIte, reduceCtorEq, ν1, ν2, ν3, ν4, ν5, ζ1, ζ2, ζ3, ζ4, ζ5, A9.get, A9.same, cw, ow, cn, on, cp, cc, op, oc, dE, avL, List.drop_nil, List.append_nil, Bool.not_true, Bool.not_false, Aw.ld, Aw.get, Qw.get, Aw.same, Qw.same, boxE, buildE])))
  ((first | refine retA.ret (by rfl) ?_ | refine retA.normal (by rfl) ?_); simp (disch := omega) only [push_cast, ↓reduceIte, reduceCtorEq, Nat.reduceAdd, Nat.reduceMul, Nat.reduceLeDiff, Nat.reduceLT, Nat.reduceSub, Int.reduceNe, Int.reduceEq, Int.reduceLE, Int.reduceLT, Int.reduceToNat, Aw.ld, Qw.ld, cw, cn, cp, cc, ow, on, op, oc, buildE])
  refine ⟨Fw, (updateP b).1, wg, pv, cv9, wn, .slice none 0 0, by rw [eU]; rfl, ⟨sw.isSl, sp.isSl, sc.isSl, sn.isSl, rfl⟩, fun _ => ⟨rfl, ?_, ?_⟩⟩
  · rw [eU]; exact ⟨sww, spw, scw, snw, Sl.nil _ (by omega)⟩
  · intro x hx
    simp only [List.mem_append, blkOf, List.not_mem_nil, or_false] at hx
    rcases hx with h | h | h | h
    · have := bw x h; omega
    · have := bp x h; omega
    · have := bc x h; omega
    · have := bn x h; omega

end Go.Proofs.Ytbdejnnbpdgjlaa.Ax

namespace Go.Proofs.Ytbdejnnbpdgjlaa.Ax
open Go Go.RowKit
open Nat renaming reduceAdd → ν1, reduceMul → ν2, reduceLeDiff → ν3, reduceLT → ν4, reduceSub → ν5
open Int renaming reduceNe → ζ1, reduceEq → ζ2, reduceLE → ζ3, reduceLT → ζ4, reduceToNat → ζ5
set_option linter.unusedVariables false
set_option linter.unusedSimpArgs false
set_option maxRecDepth 100000
set_option maxHeartbeats 20000000
attribute [local irreducible] thenA blockA scopeA retA AL AW AD ADL AH clrK CallA apure aload bload appK ptrK fnK ares szOk planOk okOps
theorem ft_eq (a b c d : Int) : aeqV Try.prog 3 46 (.agg ⟨[.int .i64 a, .int .i64 b]⟩) (.agg ⟨[.int .i64 c, .int .i64 d]⟩) = some (decide ((a, b) = (c, d))) := by
  have h : aeqV Try.prog 3 46 (.agg ⟨[.int .i64 a, .int .i64 b]⟩) (.agg ⟨[.int .i64 c, .int .i64 d]⟩) = if (a == c) = true then (if (b == d) = true then some true else some false) else some false := by kernel_rfl
  rw [h]
  by_cases h1 : a = c
  · by_cases h2 : b = d
    · simp [h1, h2]
    · simp [h1, h2]
  · simp [h1]
theorem clone_spec (v : Value) (xs : List Int) (M : Mem) (hv : Sl M v 1 (ints .u8 xs)) (hl : xs.length ≤ 1000000) : CallA Try.prog 55 [v] M fun r M' => Fr M M' [] ∧ New M M' r 1 (ints .u8 xs) := by
  have sv := hv.isSl
  have cv := isSl_cl hv.isSl
  (refine CallA.of_body Try.func55 rfl (by rfl) ?_; simp only [Try.ntmps55, List.length_cons, List.length_nil, List.replicate, List.cons_append, List.nil_append, Nat.reduceSub, Nat.reduceAdd])
  by_cases hn : nilB v = true
  · obtain ⟨rfl, hc⟩ := nilB_sl hv hn
    (repeat (first | refine st ?_ | refine σa ?_ | (refine σb ?_; simp (disch := omega) only [push_cast, ↓reduceIte, reduceCtorEq, ν1, ν2, ν3, ν4, ν5, ζ1, ζ2, ζ3, ζ4, ζ5])))
    ((first | refine retA.ret (by rfl) ?_ | refine retA.normal (by rfl) ?_); simp (disch := omega) only [push_cast, ↓reduceIte, reduceCtorEq, Nat.reduceAdd, Nat.reduceMul, Nat.reduceLeDiff, Nat.reduceLT, Nat.reduceSub, Int.reduceNe, Int.reduceEq, Int.reduceLE, Int.reduceLT, Int.reduceToNat])
    exact ⟨Fr.refl M, by rw [hc]; exact New.nil M (by omega)⟩
  have hn' : nilB v = false := by simpa using hn
  (repeat (first | refine st ?_ | refine σa ?_ | (refine σb ?_; simp (disch := omega) only [push_cast, ↓reduceIte, reduceCtorEq, ν1, ν2, ν3, ν4, ν5, ζ1, ζ2, ζ3, ζ4, ζ5, hn'])))
  have P1 := Fr.push M (.row true 1 [])
  have r1 := New.row M (s := 1) (n := 0) (cs := ints .u8 []) (by omega) rfl rfl (by decide)
  refine appK.ints (P := Try.prog) (e := 5) (bt := 1) (z := .int .u8 0) (by kernel_rfl) (by kernel_rfl) (by kernel_rfl) (by kernel_rfl) (by decide) (xs := []) r1.1 (hv.keep P1 (by simp)) (by simp; omega) ?_
  intro v1 M2 hN2 hF2
  rw [List.nil_append] at hN2
  (repeat (first | refine st ?_ | refine σa ?_ | (refine σb ?_; simp (disch := omega) only [push_cast, ↓reduceIte, reduceCtorEq, ν1, ν2, ν3, ν4, ν5, ζ1, ζ2, ζ3, ζ4, ζ5])))
  ((first | refine retA.ret (by rfl) ?_ | refine retA.normal (by rfl) ?_); simp (disch := omega) only [push_cast, ↓reduceIte, reduceCtorEq, Nat.reduceAdd, Nat.reduceMul, Nat.reduceLeDiff, Nat.reduceLT, Nat.reduceSub, Int.reduceNe, Int.reduceEq, Int.reduceLE, Int.reduceLT, Int.reduceToNat])
  exact ⟨(P1.trans hF2).cut (fun b h hlt => by simp [blkOf] at h; try omega), hN2.after P1⟩

end Go.Proofs.Ytbdejnnbpdgjlaa.Ax
